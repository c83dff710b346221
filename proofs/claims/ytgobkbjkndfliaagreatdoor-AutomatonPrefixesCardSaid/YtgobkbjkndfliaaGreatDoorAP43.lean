/-
  Several texts in one: Least. Each says at its head what it holds.
-/
import Derived.Test.YtgobkbjkndfliaaGreatDoorAP40
import Derived.Test.YtgobkbjkndfliaaGreatDoorAP42
import Derived.Test.YtgobkbjkndfliaaGreatDoorAP15
import Derived.Test.YtgobkbjkndfliaaGreatDoorAP4
import Derived.Sort.CutIn
import Derived.Sort.QuietIn

/-
  automaton.least: for each state the least number of edges to a final one.
-/
namespace Go.Proofs.YtgobkbjkndfliaaGreatDoor
open Go.RowKit Go.Shelf

attribute [local go_sem] Oper.semAt_some

/-- between two rounds: the box of the slice, the block itself -/
def LstI (E : List Edg) (fin : List Bool) (w : World) (g Bo : Nat) (pre : List (Plc fin.length)) (W : World) : Prop :=
  (∃ ls, ArI W g ls ∧ ls.length = fin.length ∧ (∀ v ∈ ls, 0 ≤ v ∧ v ≤ 1048576) ∧ Hid (Down pre → LstFrom E fin ls (fin.length - pre.length)) ∧ Boxed W Bo 43 (.slice (some ⟨g, 0, none⟩) fin.length fin.length)) ∧ Below g w W

/-- the table, in a block of its own -/
def LstPost (a : Aut) (w : World) (e : Ending) (w' : World) : Prop := ∃ g ls, e = .returned (.slice (some ⟨g, 0, none⟩) a.fin.length a.fin.length) ∧ ArI w' g ls ∧ ls.length = a.fin.length ∧ (∀ v ∈ ls, 0 ≤ v ∧ v ≤ 1048576) ∧ w.heap.size ≤ g ∧ LstFrom a.edges a.fin ls 0 ∧ Below w.heap.size w w'

theorem cells_kept {X Y : World} {row : Option Nat} {k : Nat} {cs : Array Value} {t : TypeId} {fr : Nat × Nat} (h : X.heap[k]? = some (.cells cs t fr)) (hg : X.grownBy Y row) (hr : ∀ r, row = some r → ∃ o : Obj, X.heap[r]? = some o ∧ o.isCells = false) : Y.heap[k]? = some (.cells cs t fr) :=
  (hg.block k (box_lt h) fun e => by obtain ⟨o, h1, h2⟩ := hr k e.symm; rw [h] at h1; injection h1 with h1; subst h1; cases h2).trans h
theorem lst_own {E : List Edg} {fin : List Bool} {w W2 : World} {g Bo : Nat} (hgw : g ≤ w.heap.size) (hb : g ≤ W2.heap.size) : OwnFrom W2.heap.size (LstI E fin w g Bo) := fun pre X Y row ⟨⟨ls, h1, h2, h3, h4, h5⟩, h6⟩ hg hr =>
  ⟨⟨ls, cells_kept h1 hg fun r e => (hr r e).2, h2, h3, h4, cells_kept h5 hg fun r e => (hr r e).2⟩, h6.grown hg (Nat.le_trans hgw h6.size) fun k e => by have := (hr k e).1; omega⟩
/-- memory as it was, but for a block of ints, which holds as many -/
structure GKeep (g : Nat) (W W' : World) : Prop where
  os : W'.os = W.os
  tape : W'.tape = W.tape
  output : W'.output = W.output
  size : W.heap.size ≤ W'.heap.size
  block : ∀ b, b < W.heap.size → b ≠ g → W'.heap[b]? = W.heap[b]?
  row : ∀ xs, ArI W g xs → ∃ ys, ArI W' g ys ∧ ys.length = xs.length
section
variable {g k : Nat} {W W' W'' : World} {xs : List Int}
theorem GKeep.refl (g : Nat) (W : World) : GKeep g W W := ⟨rfl, rfl, rfl, Nat.le_refl _, fun _ _ _ => rfl, fun xs h => ⟨xs, h, rfl⟩⟩
theorem GKeep.trans (h : GKeep g W W') (k : GKeep g W' W'') : GKeep g W W'' :=
  ⟨k.os.trans h.os, k.tape.trans h.tape, k.output.trans h.output, Nat.le_trans h.size k.size, fun b hb hne => (k.block b (Nat.lt_of_lt_of_le hb h.size) hne).trans (h.block b hb hne), fun xs hx => by obtain ⟨ys, h1, h2⟩ := h.row xs hx; obtain ⟨zs, h3, h4⟩ := k.row ys h1; exact ⟨zs, h3, h4.trans h2⟩⟩
theorem GKeep.of (h : Below W.heap.size W W') : GKeep g W W' := ⟨h.os, h.tape, h.output, h.size, fun b hb _ => h.block b hb, fun xs hx => ⟨xs, hx.below h, rfl⟩⟩
theorem GKeep.set (v : Int) : GKeep g W (W.setCell ⟨g, k, none⟩ (.int .i64 v)) :=
  ⟨rfl, rfl, rfl, by simp, fun b _ hne => Below.heap_setCell _ _ _ _ hne, fun xs hx => ⟨_, hx.set v, by simp⟩⟩
theorem GKeep.keepI {Bs : Nat} (h : GKeep g W W') (h1 : Bs < W.heap.size) (h2 : Bs ≠ g) : KeepI Bs g W W' := ⟨h.block Bs h1 h2, h.row⟩
theorem GKeep.from_ {B : Nat} (h : GKeep g W W') (hx : ArI W g xs) : KeepsFrom B W W' := ⟨h.size, fun k o _ hk ho => by
  by_cases e : k = g
  · subst e; unfold ArI at hx; rw [hk] at hx; injection hx with hx; subst hx; cases ho
  · exact (h.block k (box_lt hk) e).trans hk⟩
theorem GKeep.below {w : World} (h : GKeep g W W') (hb : Below g w W) (hg : g ≤ W.heap.size) : Below g w W' :=
  hb.trans ⟨h.os, h.tape, h.output, h.size, fun b hb => h.block b (by omega) (by omega)⟩
end
/-- of the state s the first k edges are done -/
def LstIn (E : List Edg) (fin : List Bool) (W0 : World) (g s : Nat) (D : Prop) (i : Value) (W : World) : Prop :=
  ∃ (k : Nat) (ls : List Int), k ≤ E.length ∧ i = .int .i64 k ∧ ArI W g ls ∧ ls.length = fin.length ∧ (∀ v ∈ ls, 0 ≤ v ∧ v ≤ 1048576) ∧ Hid (D → LstFrom E fin ls (s + 1) ∧ LeastI E fin (s : Int) k (ls.getD s 0)) ∧ GKeep g W0 W
theorem set_bnd {ls : List Int} {s : Nat} {v : Int} (h : ∀ v ∈ ls, 0 ≤ v ∧ v ≤ 1048576) (hv : 0 ≤ v ∧ v ≤ 1048576) : ∀ u ∈ ls.set s v, 0 ≤ u ∧ u ≤ 1048576 := fun u hu => by
  rcases List.mem_or_eq_of_mem_set hu with h1 | h1
  · exact h u h1
  · rw [h1]; exact hv
theorem set_from {E : List Edg} {fin : List Bool} {ls : List Int} {s : Nat} {v : Int} (h : LstFrom E fin ls (s + 1)) : LstFrom E fin (ls.set s v) (s + 1) := fun j h1 h2 => by
  rw [List.getD_eq_getElem?_getD, List.getElem?_set_ne (by omega), ← List.getD_eq_getElem?_getD]
  exact h j h1 h2
theorem set_here {ls : List Int} {s : Nat} {v : Int} (h : s < ls.length) : (ls.set s v).getD s 0 = v := by
  rw [List.getD_eq_getElem?_getD, List.getElem?_set_self h]; rfl

set_option maxRecDepth 100000 in
set_option maxHeartbeats 4000000 in
theorem least_any (a : Aut) (w : World) (ha : AutAt w (Lo w.heap.size) a) (hv : validB a = true) (hle : AutLe a) :
    Calls Tryz.prog 51 #[.agg (encA a).toArray] w (LstPost a w) := by
  obtain ⟨v1, v2, v3, v4⟩ := valid_states hv
  obtain ⟨AE, nE, cE, AC, nC, cC, AF, cF, fin, AX, cX, edges⟩ := a
  dsimp only at v1 v2 v3 v4
  have hle4 := hle.edges
  dsimp only at hle4
  have HV4 := hide v4
  have HCO := hide (valid_costs hv)
  obtain ⟨W0, hW0⟩ : ∃ W0, w.alloc (.cells (encA ⟨AE, nE, cE, AC, nC, cC, AF, cF, fin, AX, cX, edges⟩).toArray 30) = W0 := ⟨_, rfl⟩
  have g0 := new_at hW0
  have hb0 : Below w.heap.size w W0 := by rw [← hW0]; exact (Below.refl _ _).alloc (Nat.le_refl _) _
  have hz0 : W0.heap.size = w.heap.size + 1 := by rw [← hW0]; simp
  have HA := hide (ha.grow hb0)
  have HG0 := hide g0
  have HB0 := hide hb0
  have HW0 := hide hW0
  have HZ0 := hide hz0
  obtain ⟨fi, hfi, mi⟩ := mk_ints fin.length (by omega)
  have MI := hide mi
  unfold encA
  unfold encA at g0 hW0
  dsimp only at g0 hW0 ⊢
  obtain ⟨y0, y1, y2, y3, -⟩ := box4 g0
  clear mi v3 v4 g0 hb0 ha hv hle hz0
  refine (callsIn_wide (n := 6)).1 ?_
  refine callsIn_of_wp_marks Tryz.func51 rfl trivial ?_ rfl
  simp only [Tryz.ntmps51, List.size_toArray, List.length_cons, List.length_nil, Nat.reduceAdd, Nat.reduceSub, Array.replicate_succ, Array.replicate_zero, List.push_toArray, List.append_toArray, List.nil_append, List.cons_append]
  gi_upto_region 1 with (fail)
  clear hW0
  gi_upto_region 2 with (fail)
  obtain ⟨W1, hW1⟩ : ∃ W1, (fi W0).alloc (.cells #[.slice (some ⟨W0.heap.size, 0, none⟩) fin.length fin.length] 43) = W1 := ⟨_, rfl⟩
  have gA1 : ArI W1 W0.heap.size (List.replicate fin.length 0) := by rw [← hW1]; exact (MI.out.ar W0).below ((Below.refl _ _).alloc (Nat.le_refl _) _)
  have gB1 : Boxed W1 (fi W0).heap.size 43 (.slice (some ⟨W0.heap.size, 0, none⟩) fin.length fin.length) := by rw [← hW1]; exact Boxed.new _ _ _
  have hb1 : Below W0.heap.size W0 W1 := by rw [← hW1]; exact bstep (MI.out.bl W0) ((Below.refl _ _).alloc (Nat.le_refl _) _)
  rw [hW1]
  have hgz : w.heap.size ≤ W0.heap.size := HB0.out.size
  have hfz : W0.heap.size ≤ (fi W0).heap.size := (MI.out.bl W0).size
  have c1 := gB1.cell
  generalize hge : W0.heap.size = g at *
  have HGE := hide hge
  have hgw : g ≤ W0.heap.size := Nat.le_of_eq hge.symm
  generalize (fi W0).heap.size = Bo at *
  clear hW1 hfi MI hge
  gi_wp2_with fail
  refine ⟨trivial, (backI_in 5 (some ⟨g, 0, none⟩) fin.length fin.length W1).mono ?_⟩
  rintro e w2 ⟨rfl, hw2⟩
  have gS2 : w2.heap[W1.heap.size]? = some (.cells #[.slice (some ⟨g, 0, none⟩) fin.length fin.length] 43 (0, 0)) := by rw [hw2]; exact heap_alloc_new W1 _
  have hb12 : Below W1.heap.size W1 w2 := by rw [hw2]; exact (Below.refl _ _).alloc (Nat.le_refl _) _
  have gA2 := gA1.below hb12
  have gB2 : Boxed w2 Bo 43 (.slice (some ⟨g, 0, none⟩) fin.length fin.length) := (hb12.block _ gB1.lt).trans gB1
  have hb2 : Below g W0 w2 := hb1.trans (hb12.mono (by have := hb1.size; omega))
  have HGS2 := hide gS2
  have HGA2 := hide gA2
  have HGB2 := hide gB2
  have HB2 := hide hb2
  have hg2 : g < w2.heap.size := gA2.lt
  have hB2 : W1.heap.size < w2.heap.size := box_lt gS2
  have HBo := hide gB1.lt
  have hgB1 : g < W1.heap.size := gA1.lt
  clear hw2 gA1 gB1 hb1 hb12 c1 gS2 gA2 gB2 hb2
  gi_wp2_with fail
  refine wpIn_rangeFunc_ownH (n := 6) rfl (by omega) (gf := 97) (lb := #[.pointer (some ⟨W1.heap.size, 0, none⟩)]) rfl trivial (enters_of Tryz.func97 (by kernel_rfl) rfl)
    (backI_stops 5 W1.heap.size g fin.length fin.length (by omega) (by omega) w2 HGS2.out _ HGA2.out (by simp)) KeepI.trans (KeepI.book hB2 hg2) (Below.refl _ _) (fun _ => rfl)
    (LstI edges fin W0 g Bo) (fun _ _ _ => False) (lst_own hgw (by omega)) (fun _ _ _ _ _ h _ _ => h.elim)
    ⟨⟨_, HGA2.out, by simp, fun v hv => by have := List.eq_of_mem_replicate hv; omega, fun _ j h1 h2 => by simp at h1; omega, HGB2.out⟩, HB2.out⟩
    (fun x a' _ => a' = { tmps := #[.agg #[.slice AE nE cE, .slice AC nC cC, .slice AF fin.length cF, .slice AX edges.length cX], .pointer (some ⟨w.heap.size, 0, none⟩), .slice none 0 0, .pointer (some ⟨Bo, 0, none⟩), .int .i64 (x.i : Int), undef, undef, .pointer (some ⟨w.heap.size, 2, none⟩), .slice AF fin.length cF, .int .i64 fin.length, .slice (some ⟨g, 0, none⟩) fin.length fin.length, .slice (some ⟨g, 0, none⟩) fin.length fin.length, .func (.func 97) #[] #[.pointer (some ⟨W1.heap.size, 0, none⟩)], .int .i64 (x.i : Int), .int .i64 x.v, undef, undef, undef, undef, undef, undef, undef, undef, undef, undef, undef, undef, undef, undef, undef, undef, undef, undef, undef, undef, undef, undef, undef, undef, undef, undef, undef, undef, undef, undef, undef, undef, undef, undef, undef, undef, undef, undef], defers := [] }) (fun _ _ _ _ _ _ h _ _ => h)
    ?assign ?body ?done ?stop
  case assign =>
    intro l pre x W K hI hK
    unfold plcEnc
    gi_wp2
    exact hK _ _ (KeepsFrom.refl _ _) (KeepI.refl _ _ _) hI rfl
  case body =>
    rintro l pre x a' W hl hr ⟨⟨ls, hA, hls, hbd, hdn, hbx⟩, hB⟩ rfl hlt
    obtain ⟨s, u, hs⟩ := x
    dsimp only
    have hne : Bo ≠ g := fun e => by
      have h1 : W.heap[Bo]? = _ := hbx
      rw [e] at h1
      have h2 : W.heap[g]? = _ := hA
      rw [h1] at h2
      injection h2 with h2
      injection h2 with _ h2
      exact absurd h2 (by decide)
    have hwg : w.heap.size < g := by have := box_lt HG0.out; rw [HGE.out] at this; exact this
    have HAW := hide (fun (wx : World) (h : Below g W0 wx) => (h.block _ hwg).trans HG0.out)
    have HAU := hide (fun (wx : World) (h : Below g W0 wx) => (show AutAt wx (Lo wx.heap.size) ⟨AE, nE, cE, AC, nC, cC, AF, cF, fin, AX, cX, edges⟩ from (HA.out.stay (P := Lo g) fun b hb => h.block b hb).more fun b hb => by unfold Lo at hb ⊢; have := h.size; omega))
    have HBX := hide (fun (wx : World) (h : GKeep g W wx) => (show Boxed wx Bo 43 (.slice (some ⟨g, 0, none⟩) fin.length fin.length) from (h.block _ hbx.lt hne).trans hbx))
    have HBB := hide hB
    have HGW := hide (show g ≤ W.heap.size from Nat.le_of_lt hA.lt)
    have hBs : W1.heap.size < W.heap.size := by obtain ⟨r, hr⟩ := hr; have := box_lt hr; omega
    clear hr
    have cB := hbx.cell
    have hAx : ∃ v, ls[s]? = some v := ⟨_, List.getElem?_eq_getElem (by omega)⟩
    obtain ⟨v0, hv0⟩ := hAx
    have cA := hA.cell hv0
    have fA : W.frozen? ⟨g, s, none⟩ = false := hA.froz
    have HA0 := hide hA
    have HLS := hide hls
    have HBD := hide hbd
    have HDN := hide hdn
    clear hv0 hbx hB hA hls hbd hdn
    gi_upto_region 5 with (fail)
    obtain ⟨w5, hw5⟩ : ∃ w5, W.setCell ⟨g, s, none⟩ (.int .i64 1048576) = w5 := ⟨_, rfl⟩
    have k5 : GKeep g W w5 := by rw [← hw5]; exact GKeep.set _
    have a5 : ArI w5 g (ls.set s 1048576) := by rw [← hw5]; exact HA0.out.set _
    rw [hw5]
    have HK5 := hide k5
    have HA5 := hide a5
    have hb5 := k5.below HBB.out HGW.out
    obtain ⟨y0, y1, y2, y3, -⟩ := box4 (HAW.out w5 hb5)
    obtain ⟨bf, of, hAF, hbf, e0⟩ := (HAU.out w5 hb5).fin.bool_at hs
    dsimp only at hAF
    subst hAF
    have HFQ := hide (show fin.getD ((s : Int)).toNat false = fin[s] from by rw [Int.toNat_natCast, List.getD_eq_getElem?_getD, List.getElem?_eq_getElem hs]; rfl)
    generalize fin[s] = fq at *
    have cB5 := (HBX.out w5 k5).cell
    have fA5 : w5.frozen? ⟨g, s, none⟩ = false := a5.froz
    have cA5 := a5.cell (k := s) (x := 1048576) (List.getElem?_set_self (by rw [HLS.out]; exact hs))
    clear hw5 k5 a5 cB cA fA hb5
    gi_upto_if 22 with (fail)
    gi_cut [4] from 23 (fun v wx => v = .int .i64 (s : Int) ∧ ArI wx g (ls.set s (if fq = true then 0 else 1048576)) ∧ GKeep g W wx)
    case first =>
      cases fq with
      | true =>
        gi_wp2_with fail
        gi_meet
        refine ⟨rfl, ?_, HK5.out.trans (GKeep.set _)⟩
        have h := HA5.out.set (k := s) 0
        rw [List.set_set] at h
        exact h
      | false =>
        gi_wp2_with fail
        gi_meet
        exact ⟨rfl, HA5.out, HK5.out⟩
    case rest =>
      obtain ⟨rfl, ac, kc⟩ := hcut
      have hbc := kc.below HBB.out HGW.out
      have HAC := hide ac
      have HKC := hide kc
      have HFQ2 := hide (show LeastI edges fin (s : Int) 0 ((ls.set s (if fq = true then 0 else 1048576)).getD s 0) from by
        rw [set_here (by rw [HLS.out]; exact hs)]
        have h := LeastI.zero (E := edges) (fin := fin) (s := (s : Int))
        rw [HFQ.out] at h
        exact h)
      clear y0 y1 y2 y3 e0 ac kc cB5 fA5 cA5 HK5 HA5
      obtain ⟨y0, y1, y2, y3, -⟩ := box4 (HAW.out wc hbc)
      generalize wc = V at *
      have HSB := hide (set_bnd (s := s) (v := if fq = true then 0 else 1048576) HBD.out (by split <;> omega))
      have HD1 := hide (fun (hD : Down (pre ++ [(⟨s, u, hs⟩ : Plc fin.length)])) => (show LstFrom edges fin ls (s + 1) from by
        obtain ⟨h1, h2⟩ := hD.init
        have h3 := HDN.out.out h1
        dsimp only at h2
        rw [show fin.length - pre.length = s + 1 by omega] at h3
        exact h3))
      gi_wp2_with fail
      gi_loopw [29] (fun i wr => LstIn edges fin W g s (Down (pre ++ [(⟨s, u, hs⟩ : Plc fin.length)])) i wr) (fun i _ => edges.length - (intOf i).toNat)
      case atStart =>
        exact ⟨0, _, Nat.zero_le _, rfl, HAC.out, by rw [List.length_set]; exact HLS.out, HSB.out, (fun hD => ⟨set_from (HD1.out hD), HFQ2.out⟩), HKC.out⟩
      case round =>
        clear y0 y1 y2 y3 HAC HKC HSB HD1 HFQ2 hbc
        obtain ⟨wr1, rfl⟩ : ∃ w2 : World, w2 = wr := ⟨_, rfl⟩
        obtain ⟨k, ms, hk, rfl, am, hml, hmb, hmd, km⟩ := hrel
        have HAM := hide am
        have HML := hide hml
        have HMB := hide hmb
        have HMD := hide hmd
        have HKM := hide km
        have hbm := km.below HBB.out HGW.out
        obtain ⟨y0, y1, y2, y3, -⟩ := box4 (HAW.out wr1 hbm)
        have cBm := (HBX.out wr1 km).cell
        have HBM := hide hbm
        by_cases hlk : k < edges.length
        · obtain ⟨be, oe, ax, hbe, e0, e1, e2, e3, e4, e5⟩ := (HAU.out wr1 hbm).edges.edg_at hlk
          dsimp only at ax
          subst ax
          have HE := hide (List.getElem?_eq_getElem hlk)
          have hto := HV4.out _ (List.getElem_mem hlk)
          have hco := HCO.out.1.st _ (List.getElem_mem hlk)
          generalize edges[k] = x at *
          obtain ⟨f, t, ev, wh, lo, hi⟩ := x
          dsimp only at e0 e1 e2 e3 e4 e5 hto hco
          obtain ⟨tn, htn⟩ := Int.eq_ofNat_of_zero_le hto.1
          subst htn
          have htl : tn < fin.length := by omega
          obtain ⟨W6, hW6⟩ : ∃ W6 : World, wr1.alloc (.cells #[.int .i64 f, .int .i64 (tn : Int), .int .i64 ev, .int .i64 wh, .int .i64 lo, .int .i64 hi] 39) = W6 := ⟨_, rfl⟩
          have g6 := new_at hW6
          have hb6 : Below wr1.heap.size wr1 W6 := by rw [← hW6]; exact (Below.refl _ _).alloc (Nat.le_refl _) _
          have hz6 : W6.heap.size = wr1.heap.size + 1 := by rw [← hW6]; simp
          gi_upto_region 10 with (fail)
          clear hW6 e0 e1 e2 e3 e4 e5 y0 y1 y2 y3 cBm
          have HK6 := hide (HKM.out.trans (.of hb6))
          have HA6 := hide (HAM.out.below hb6)
          obtain ⟨f0, f1, -, -, -, -⟩ := box6 g6
          have hg6 : g < wr1.heap.size := HAM.out.lt
          clear g6 hb6
          generalize wr1.heap.size = XB at *
          by_cases hf : f = (s : Int)
          · have T1 : (f == (s : Int)) = true := beq_iff_eq.2 hf
            have HF := hide hf
            have cB6 := (HBX.out W6 HK6.out).cell
            have hls : s < ms.length := by rw [HML.out]; exact hs
            have hlt : tn < ms.length := by rw [HML.out]; exact htl
            have c6s := HA6.out.cell (List.getElem?_eq_getElem hls)
            have c6t := HA6.out.cell (List.getElem?_eq_getElem hlt)
            have f6s : W6.frozen? ⟨g, s, none⟩ = false := HA6.out.froz
            have hvs := HMB.out _ (List.getElem_mem hls)
            have hvt := HMB.out _ (List.getElem_mem hlt)
            have HVS := hide (show ms.getD s 0 = ms[s] from by rw [List.getD_eq_getElem?_getD, List.getElem?_eq_getElem hls]; rfl)
            have HVT := hide (show ms.getD tn 0 = ms[tn] from by rw [List.getD_eq_getElem?_getD, List.getElem?_eq_getElem hlt]; rfl)
            generalize ms[s] = vs at *
            generalize ms[tn] = vt at *
            clear hf
            gi_upto_region 11 with (fail)
            obtain ⟨W7, hW7⟩ : ∃ W7, W6.drew = W7 := ⟨_, rfl⟩
            have k7 : GKeep g W W7 := by rw [← hW7]; exact HK6.out.trans (.of (below_drew (Below.refl _ _)))
            have a7 : ArI W7 g ms := by rw [← hW7]; exact HA6.out
            have p0 : W7.cell? ⟨XB, 0, none⟩ = some (.int .i64 f) := by rw [← hW7]; exact f0
            have p1 : W7.cell? ⟨XB, 1, none⟩ = some (.int .i64 (tn : Int)) := by rw [← hW7]; exact f1
            have pB := (HBX.out W7 k7).cell
            have ps : W7.cell? ⟨g, s, none⟩ = some (.int .i64 vs) := by rw [← hW7]; exact c6s
            have pt : W7.cell? ⟨g, tn, none⟩ = some (.int .i64 vt) := by rw [← hW7]; exact c6t
            have pf : W7.frozen? ⟨g, s, none⟩ = false := a7.froz
            refine wpIn_region_still_tail 14 (by kernel_rfl) (by kernel_rfl) (by kernel_rfl) ?_
            simp only [List.take_succ_cons, List.take_zero, List.drop_succ_cons, List.drop_zero]
            change wpStill _ _ W6.drew _ _ _
            rw [hW7]
            have s1 : IntKind.i64.wrap (vt + 1) = vt + 1 := IntWalk.i64_in _ (by omega)
            repeat (refine wpStill_step (fun K hK => ?_); go_simp; refine hK _ ?_; clear hK K)
            refine wpStill_nil ?_
            gi_wp2_with fail
            try rw [show min vs (vt + 1) = (if vt + 1 < vs then vt + 1 else vs) by split <;> omega]
            have hv' : 0 ≤ (if vt + 1 < vs then vt + 1 else vs) ∧ (if vt + 1 < vs then vt + 1 else vs) ≤ 1048576 := by split <;> omega
            refine ⟨⟨k + 1, ms.set s (if vt + 1 < vs then vt + 1 else vs), hlk, by go_num, a7.set _, by rw [List.length_set]; exact HML.out, set_bnd HMB.out hv', (fun hD => ⟨set_from (HMD.out.out hD).1, ?_⟩), k7.trans (GKeep.set _)⟩, by simp [intOf]; omega⟩
            obtain ⟨h1, h2⟩ := HMD.out.out hD
            rw [set_here hls]
            have h3 := h1 tn (by have := HF.out; omega) htl
            rw [HVT.out] at h3
            rw [HVS.out] at h2
            have h4 := h2.take HE.out HF.out h3 hvt.1
            rw [show (if vt + 1 < vs then vt + 1 else vs) = min vs (vt + 1) by split <;> omega]
            exact h4
          · have T1 : (f == (s : Int)) = false := beq_eq_false_iff_ne.2 hf
            have HNX := hide (fun (hD : Down (pre ++ [(⟨s, u, hs⟩ : Plc fin.length)])) => (show LstFrom edges fin ms (s + 1) ∧ LeastI edges fin (s : Int) (k + 1) (ms.getD s 0) from ⟨(HMD.out.out hD).1, (HMD.out.out hD).2.skip HE.out hf⟩))
            clear hf
            gi_wp2_with fail
            exact ⟨⟨k + 1, ms, hlk, by go_num, HA6.out, HML.out, HMB.out, HNX.out, HK6.out⟩, by simp [intOf]; omega⟩
        · have hke : k = edges.length := by omega
          have HFN := hide (show LstI edges fin W0 g Bo (pre ++ [(⟨s, u, hs⟩ : Plc fin.length)]) wr1 from
            ⟨⟨ms, HAM.out, HML.out, HMB.out, (fun hD => by
              obtain ⟨h1, h2⟩ := HMD.out.out hD
              rw [hke] at h2
              obtain ⟨h3, h4⟩ := hD.init
              dsimp only at h4
              intro j h5 h6
              rw [List.length_append] at h5
              rcases Nat.lt_or_ge s j with h7 | h7
              · exact h1 j (by omega) h6
              · have : j = s := by simp at h5; omega
                subst this
                exact h2.all), HBX.out wr1 HKM.out⟩, HBM.out⟩)
          have HKI := hide (HKM.out.keepI (Bs := W1.heap.size) hBs (by omega))
          have HKF := hide (HKM.out.from_ (B := w2.heap.size) HA0.out)
          clear hke
          gi_wp2_with fail
          exact ⟨HKF.out, HKI.out, HFN.out⟩
  case done =>
    rintro D xs W hD ⟨hdx, hlx⟩ ⟨⟨ls, hA, hls, hbd, hdn, hbx⟩, hB⟩ hK
    have cB := hbx.cell
    have HFN := hide (hdn.out hdx)
    rw [hlx, Nat.sub_self] at HFN
    clear hdn hlx
    gi_wp2_with fail
    refine ⟨by simp, .inl ⟨_, _, rfl, run_takeDeferred hK, ?_⟩⟩
    refine ⟨.slice (some ⟨g, 0, none⟩) fin.length fin.length, by simp [results, Tryz.f51, go_sem], g, ls, rfl, (World.putObj_heap_other (by omega)).trans hA, hls, hbd, hgz, HFN.out, ?_⟩
    exact (HB0.out.trans (hB.mono hgz)).grown (grownBy_putObj' W D _) (by have := hB.size; omega) (fun k e => by injection e with e; omega)
  case stop =>
    rintro D c' pre W hD _ h _
    exact h.elim

end Go.Proofs.YtgobkbjkndfliaaGreatDoor
