/-
  Several texts in one: RefExt. Each says at its head what it holds.
-/
import Derived.Test.YtgobkbjkndfliaaGreatDoorAP40
import Derived.Test.YtgobkbjkndfliaaGreatDoorAP4

/-
  wavestoreref54.extend: the paths that begin with a path.
-/
namespace Go.Proofs.YtgobkbjkndfliaaGreatDoor
open Go.RowKit

/-- a row of slices of the call's own, whose ints lie apart -/
structure RthSt (Bo base : Nat) (A : Option Addr) (c : Nat) (rows : List SlI) (W : World) : Prop where
  own : W.ownsRow base 43 1 (.slice A rows.length c) rows.length (rows.map celS)
  each : ∀ s ∈ rows, Row W (Free Bo A W) 1 cInt s.A s.xs
  lt : Bo < base
  le : base ≤ W.heap.size
section
variable {Bo base c : Nat} {A A' A'' : Option Addr} {W W' W'' : World} {rows : List SlI} {b : Nat}
theorem RthSt.ob_base (h : RthSt Bo base A c rows W) : ∀ k, ob A = some k → base ≤ k := fun k hk => (own_ob h.own k hk).1
theorem RthSt.below (h : RthSt Bo base A c rows W) (hb : Below W.heap.size W W') : RthSt Bo base A c rows W' :=
  ⟨own_block h.own fun g hg => hb.block g (own_ob h.own g hg).2, fun s hs => row_keep (h.each s hs) (.below hb) (.refl _ _), h.lt, Nat.le_trans h.le hb.size⟩
theorem RthSt.free (h : RthSt Bo base A c rows W) (hb : b < base) (hne : b ≠ Bo) : Free Bo A W b := ⟨by have := h.le; omega, hne, fun e => by have := h.ob_base b e; omega⟩
/-- behind the append of one row -/
theorem RthSt.push {s : SlI} {g c' : Nat} {W3 : World} (h : RthSt Bo base A c rows W) (hs : Row W (Free Bo A W) 1 cInt s.A s.xs)
    (hown : W3.ownsRow base 43 1 (.slice (some ⟨g, 0, none⟩) (rows.length + 1) c') (rows.length + 1) (rows.map celS ++ [celS s])) (hg : W.grownBy W3 (ob A)) (hat : ob A = some g ∨ g = W.heap.size) :
    RthSt Bo base (some ⟨g, 0, none⟩) c' (rows ++ [s]) W3 ∧ PKeep Bo A W W3 ∧ PMov A (some ⟨g, 0, none⟩) W := by
  have hkp : PKeep Bo A W W3 := ⟨hg.os, hg.tape, hg.output, hg.size, fun b hb => hg.block b hb.1 (fun e => hb.2.2 e.symm)⟩
  have hmv : PMov A (some ⟨g, 0, none⟩) W := by
    rcases hat with e | e
    · exact .inl (by rw [ob_some]; exact e.symm)
    · exact .inr ⟨g, ob_some g, by omega⟩
  refine ⟨⟨?_, ?_, h.lt, Nat.le_trans h.le hkp.size⟩, hkp, hmv⟩
  · rw [List.length_append, List.map_append]
    exact hown
  · intro t ht
    rcases List.mem_append.1 ht with ht | ht
    · exact row_keep (h.each t ht) hkp hmv
    · simp at ht
      subst ht
      exact row_keep hs hkp hmv
end

/-- what extend answers -/
def ExtPost (Bo base : Nat) (A : Option Addr) (rows : List SlI) (ps : List (List Int)) (most : Nat) (W : World) (e : Ending) (W' : World) : Prop :=
  ∃ A' c' rows', e = .returned (.slice A' rows'.length c') ∧ RthSt Bo base A' c' rows' W' ∧ PKeep Bo A W W' ∧ PMov A A' W ∧
    ((rows'.length ≤ most ∧ rows'.map SlI.xs = rows.map SlI.xs ++ ps) ∨ (most < rows'.length ∧ most < rows.length + ps.length))
def ExtRel (X : PEn) (Bo base : Nat) (A : Option Addr) (rows : List SlI) (n : Nat) (s : Int) (path : List Int) (W : World) (out i : Value) (wr : World) : Prop :=
  ∃ (k : Nat) (A' : Option Addr) (c' : Nat) (rows' : List SlI), k ≤ X.a.edges.length ∧ i = .int .i64 k ∧ out = .slice A' rows'.length c' ∧ RthSt Bo base A' c' rows' wr ∧ PKeep Bo A W wr ∧ PMov A A' W ∧
    ((rows'.length ≤ X.most ∧ rows'.map SlI.xs = rows.map SlI.xs ++ psOf X n s path k) ∨ (X.most < rows'.length ∧ X.most < rows.length + (psOf X n s path k).length))
theorem psOf_none {X : PEn} {s : Int} {path : List Int} {k : Nat} : psOf X 0 s path k = psAll X 0 s path := rfl

set_option maxRecDepth 100000 in
set_option maxHeartbeats 4000000 in
theorem ext_any (X : PEn) (Bo base : Nat) (hvl : validB X.a = true) (hed : X.a.edges.length ≤ 1000) (hlen : X.len ≤ 1000) (hmost : X.most ≤ 100000) (n : Nat) : ∀ (q : Nat) (path : List Int) (PA : Option Addr) (pc : Nat) (A : Option Addr) (c : Nat) (rows : List SlI) (w : World),
    q < X.a.fin.length → path.length + n = X.len → AutAt w (fun b => b < base ∧ b ≠ Bo) X.a → RthSt Bo base A c rows w → rows.length ≤ X.most → Row w (Free Bo A w) 1 cInt PA path →
    Calls Tryz.prog 54 #[.agg (encA X.a).toArray, .slice A rows.length c, .slice PA path.length pc, .int .i64 (q : Int), .int .i64 X.len, .int .i64 X.most] w (ExtPost Bo base A rows (psAll X n (q : Int) path) X.most w) := by
  induction n using Nat.strongRecOn with
  | _ n ih =>
  intro q path PA pc A c rows w hq hpl haut st hrm hpa
  have IH := hide ih
  obtain ⟨v1, v2, v3, v4⟩ := valid_states hvl
  have HV4 := hide v4
  obtain ⟨a', ha'⟩ : ∃ a', X.a = a' := ⟨_, rfl⟩
  have HAA := hide ha'
  rw [ha'] at haut hed hq v1 v2 IH ⊢
  obtain ⟨AE, nE, cE, AC, nC, cC, AF, cF, fin, AX, cX, edges⟩ := a'
  have HAU := hide haut
  unfold encA at IH ⊢
  dsimp only at hed hq v1 v2 IH ⊢
  obtain ⟨W0, hW0⟩ : ∃ W0, w.alloc (.cells #[.slice AE nE cE, .slice AC nC cC, .slice AF fin.length cF, .slice AX edges.length cX] 30) = W0 := ⟨_, rfl⟩
  have g0 := new_at hW0
  have hb0 : Below w.heap.size w W0 := by rw [← hW0]; exact (Below.refl _ _).alloc (Nat.le_refl _) _
  have HB0 := hide hb0
  have HG0 := hide g0
  have ST := hide (st.below hb0)
  have HPA := hide (row_keep hpa (.below hb0) (.refl _ _))
  have HK0 := hide (PKeep.below (Bo := Bo) (A := A) hb0)
  have HAK := hide (fun (wx : World) (k : PKeep Bo A w wx) => haut.stay fun b hb => k.block b (st.free hb.1 hb.2))
  have HGK := hide (fun (wx : World) (k : PKeep Bo A W0 wx) => (k.block _ ⟨box_lt g0, by have := st.lt; have := st.le; omega, fun e => Nat.lt_irrefl _ (own_ob st.own _ e).2⟩).trans g0)
  have HNA := hide (show ob A ≠ some w.heap.size from fun e => Nat.lt_irrefl _ (own_ob st.own _ e).2)
  have hle0 := st.le
  have hlt0 := st.lt
  obtain ⟨y0, y1, y2, y3, -⟩ := box4 g0
  obtain ⟨bf, of, hAF, hbf, e0⟩ := (HAK.out W0 HK0.out).fin.bool_at hq
  dsimp only at hAF
  subst hAF
  have HFQ := hide (show X.a.fin.getD ((q : Int)).toNat false = fin[q] from by rw [ha', Int.toNat_natCast, List.getD_eq_getElem?_getD, List.getElem?_eq_getElem hq]; rfl)
  generalize fin[q] = fq at *
  clear ih hvl v3 v4 hpa ha' haut st g0 hb0
  go_enter Tryz.func54, Tryz.ntmps54
  go_upto_region 1 with (fail)
  clear hW0
  go_upto_if 18 with (fail)
  go_cut [1] (fun v wx => ∃ A' c' rows', v = .slice A' rows'.length c' ∧ RthSt Bo base A' c' rows' wx ∧ PKeep Bo A W0 wx ∧ PMov A A' W0 ∧ rows'.length ≤ X.most + 1 ∧ rows'.map SlI.xs = rows.map SlI.xs ++ psOf X n (q : Int) path 0)
  case first =>
    clear y0 y1 y2 y3 e0
    cases fq with
    | false =>
      go_wp2_with fail
      go_meet
      exact ⟨A, c, rows, rfl, ST.out, .refl _ _ _, .refl _ _, by omega, by rw [psOf_zero HFQ.out, List.append_nil]⟩
    | true =>
      obtain ⟨i0, hi0, hz0, hz1, hz2⟩ := info_parts infoInt
      obtain ⟨j0, hj0, yz0, yz1, yz2⟩ := info_parts infoSl
      have HSRC := hide ((row_keep HPA.out (.below ((Below.refl _ W0).alloc (Nat.le_refl _) (.cells #[] 3))) (.refl _ _)).src1)
      have hz := HB0.out.size
      go_wp2_with (at_builtin; first
        | ((refine append_src rfl (.tmp 20) (.tmp 21) 43 rfl W0.heap.size 3 i0 _ 1 8 Tryz.underlying43 hi0 hz0 hz1 hz2 rfl (by decide) (.slice (some ⟨W0.heap.size, 0, none⟩) 0 0) 0 [] rfl (World.ownsRow_lit W0 #[] 0 (Nat.le_refl _) (by simp [maxLen]) rfl) PA path.length pc (path.map (Value.int .i64)) rfl (by simp) HSRC.out (by simp [Value.oneCell']) (by simp only [maxLen]; omega) (by omega) (by simp) ?_); intro v1 w1 hown1 hg1; obtain ⟨V, cap, rfl, hs1, -⟩ := ints_of_row (xs := path) (by simpa using hown1); have hb1 : Below W0.heap.size W0 w1 := ((Below.refl _ W0).alloc (Nat.le_refl _) _).grown hg1 (by simp) (fun k hk => Nat.le_of_eq (by simpa [Value.ownBlock] using hk)); have HS1 := hide (ST.out.below hb1); have HR1 := hide (show Row w1 (Free Bo A w1) 1 cInt V path from hs1.more fun b hb => ⟨hb.2, by have := hb.1; omega, fun e => by have := (own_ob ST.out.own b e).2; have := hb.1; omega⟩); have HB1 := hide hb1; have hz1' := hb1.size; clear hs1 hb1 hown1 hg1)
        | ((refine wpList_append_lies _ rfl (.tmp 19) (.tmp 23) 45 rfl base 43 j0 _ 1 24 Tryz.underlying45 hj0 yz0 yz1 yz2 rfl (by decide) (.slice A rows.length c) rows.length (rows.map celS) rfl (World.ownsRow.alloc HS1.out.own _) ⟨w1.heap.size, 0, none⟩ 1 1 [celS ⟨V, cap, path⟩] rfl rfl (World.news_of_block (cs := #[.slice V path.length cap]) (t := 43) (fr := (0, 0)) (heap_alloc_new w1 _)) (by simp [celS, Value.oneCell']) (by omega) (by simp only [maxLen]; omega) (by omega) (by simp; omega) (w1.heap.size + 1) (by simp) ?_); intro g2 e2 w2 hown2 hg2 hat2 hlt2; rw [ob_eq] at hg2 hat2; have hba : Below w1.heap.size w1 (w1.alloc (.cells #[.slice V path.length cap] 43)) := (Below.refl _ _).alloc (Nat.le_refl _) _; obtain ⟨p3, p4, p5⟩ := (HS1.out.below hba).push (s := ⟨V, cap, path⟩) (row_keep HR1.out (.below hba) (.refl _ _)) hown2 hg2 (by rw [World.size_alloc]; exact hat2); have HP3 := hide p3; have HP4 := hide ((PKeep.below (Bo := Bo) (A := A) (bstep HB1.out hba)).trans (.refl _ _) p4); have HP5 := hide (p5.same (bstep HB1.out hba).size); clear p3 p4 p5 hown2 hg2 hat2 hba))
      go_meet
      exact ⟨some ⟨g2, 0, none⟩, e2, rows ++ [⟨V, cap, path⟩], by simp, HP3.out, HP4.out, HP5.out, by simp; omega, by simp [psOf_here HFQ.out]⟩
  case rest =>
    obtain ⟨A1, c1, rows1, rfl, st1, k1, m1, r1, x1⟩ := hcut
    have ST1 := hide st1
    have K1 := hide k1
    have M1 := hide m1
    have X1 := hide x1
    clear y0 y1 y2 y3 e0 st1 k1 m1 x1
    generalize wc = V at *
    go_wp2_with fail
    go_loopw [1, 13] (fun out i wr => ExtRel X Bo base A rows n (q : Int) path W0 out i wr) (fun _ i _ => edges.length - (intOf i).toNat)
    case atStart =>
      refine ⟨0, A1, c1, rows1, Nat.zero_le _, rfl, rfl, ST1.out, K1.out, M1.out, ?_⟩
      rcases Nat.lt_or_ge X.most rows1.length with h | h
      · right
        have h2 := congrArg List.length X1.out
        rw [List.length_map, List.length_append, List.length_map] at h2
        exact ⟨h, by omega⟩
      · exact .inl ⟨h, X1.out⟩
    case round =>
      obtain ⟨wr1, rfl⟩ : ∃ w2 : World, w2 = wr := ⟨_, rfl⟩
      obtain ⟨k, A2, c2, rows2, hk, rfl, rfl, st2, k2, m2, x2⟩ := hrel
      have ST2 := hide st2
      have K2 := hide k2
      have M2 := hide m2
      have X2 := hide x2
      clear ST1 K1 M1 X1 st2 k2 m2 x2
      obtain ⟨y0, y1, y2, y3, -⟩ := box4 (HGK.out wr1 K2.out)
      have hke : k ≤ edges.length := by have h := hk; rw [HAA.out] at h; exact h
      have HEND := hide (fun (h : k = edges.length ∨ n = 0 ∨ X.most < rows2.length) => (show ExtPost Bo base A rows (psAll X n (q : Int) path) X.most w (.returned (.slice A2 rows2.length c2)) wr1 from by
        refine ⟨A2, c2, rows2, rfl, ST2.out, HK0.out.trans (.refl _ _) K2.out, M2.out.same HB0.out.size, ?_⟩
        rcases X2.out with ⟨h1, h2⟩ | ⟨h1, h2⟩
        · refine .inl ⟨h1, ?_⟩
          rcases h with h | h | h
          · rw [h2, h, show edges.length = X.a.edges.length by rw [HAA.out], psOf_all]
          · rw [h2, h, psOf_none]
          · omega
        · exact .inr ⟨h1, by have := psOf_len (X := X) (n := n) (s := (q : Int)) (path := path) hk; omega⟩))
      by_cases q1 : k < edges.length
      · by_cases q2 : path.length < X.len
        · by_cases q3 : rows2.length ≤ X.most
          · have T1 : decide (k < edges.length) = true := decide_eq_true q1
            have T2 : decide (path.length < X.len) = true := decide_eq_true q2
            have T3 : decide (rows2.length ≤ X.most) = true := decide_eq_true q3
            obtain ⟨be, oe, ax, hbe, e0, e1, e2, e3, e4, e5⟩ := (HAK.out wr1 (HK0.out.trans (.refl _ _) K2.out)).edges.edg_at q1
            dsimp only at ax
            subst ax
            have HE := hide (show X.a.edges[k]? = some edges[k] from by rw [HAA.out]; exact List.getElem?_eq_getElem q1)
            have hto := HV4.out _ (show edges[k] ∈ X.a.edges from by rw [HAA.out]; exact List.getElem_mem q1)
            rw [HAA.out] at hto
            dsimp only at hto
            generalize edges[k] = x at *
            obtain ⟨f, t, ev, wh, lo, hi⟩ := x
            dsimp only at e0 e1 e2 e3 e4 e5 hto
            obtain ⟨tn, htn⟩ := Int.eq_ofNat_of_zero_le hto.1
            subst htn
            have htl : tn < fin.length := by omega
            go_upto_region 6 with (fail)
            by_cases hf : f = (q : Int)
            · have T4 : (f == (q : Int)) = true := beq_iff_eq.2 hf
              have HF := hide hf
              clear hf
              have hn1 : n = (n - 1) + 1 := by omega
              have HTK := hide (psOf_take (X := X) (m := n - 1) (path := path) HE.out HF.out)
              rw [← hn1] at HTK
              have hnm : n - 1 < n := by omega
              have hpm : (path ++ [(k : Int)]).length + (n - 1) = X.len := by simp; omega
              have HPA2 := hide (row_keep HPA.out K2.out M2.out)
              have hsz2 : w.heap.size < wr1.heap.size := Nat.lt_of_lt_of_le (box_lt HG0.out) K2.out.size
              have hbe2 : be < wr1.heap.size := by have := hbe.1; have := ST2.out.le; omega
              have hfw : Free Bo A2 wr1 w.heap.size := Free.mov (A := A) (W := W0) ⟨box_lt HG0.out, by omega, HNA.out⟩ K2.out.size M2.out
              have hfb : Free Bo A2 wr1 be := ST2.out.free hbe.1 hbe.2
              have HSB := hide (fun (wx : World) (hw : wx.heap[w.heap.size]? = wr1.heap[w.heap.size]?) (hb : wx.heap[be]? = wr1.heap[be]?) => (show wx.cell? ⟨w.heap.size, 0, none⟩ = some (.slice AE nE cE) ∧ wx.cell? ⟨w.heap.size, 1, none⟩ = some (.slice AC nC cC) ∧ wx.cell? ⟨w.heap.size, 2, none⟩ = some (.slice (some ⟨bf, of, none⟩) fin.length cF) ∧ wx.cell? ⟨w.heap.size, 3, none⟩ = some (.slice (some ⟨be, oe, none⟩) edges.length cX) ∧ wx.cell? ⟨be, oe + k * 6 + 1, none⟩ = some (.int .i64 (tn : Int)) from
                ⟨(World.cell?_of_block (a := ⟨_, _, none⟩) hw).trans y0, (World.cell?_of_block (a := ⟨_, _, none⟩) hw).trans y1, (World.cell?_of_block (a := ⟨_, _, none⟩) hw).trans y2, (World.cell?_of_block (a := ⟨_, _, none⟩) hw).trans y3, (World.cell?_of_block (a := ⟨_, _, none⟩) hb).trans e1⟩))
              have HSC := hide (fun (wx : World) (hb : Below wr1.heap.size wr1 wx) => HSB.out wx (hb.block _ hsz2) (hb.block _ hbe2))
              obtain ⟨i0, hi0, hz0, hz1, hz2⟩ := info_parts infoInt
              go_upto_region 7 with (fail)
              have HSRC := hide (fun (wx : World) (hb : Below wr1.heap.size wr1 wx) => (row_keep HPA2.out (.below hb) (.refl _ _)).src1)
              have HL := hide (show (path ++ [(k : Int)]).length = path.length + 1 by simp)
              have bN : ∀ (cs ds : Array Value), Below wr1.heap.size wr1 ((wr1.alloc (.cells cs 3)).alloc (.cells ds 3)).drew := fun cs ds => below_drew (((Below.refl _ _).alloc (Nat.le_refl _) _).alloc (by simp) _)
              have b1 : ∀ (cs : Array Value), Below wr1.heap.size wr1 (wr1.alloc (.cells cs 3)).drew := fun cs => below_drew ((Below.refl _ _).alloc (Nat.le_refl _) _)
              have HBA := hide (b1 #[])
              have HBI := hide (b1 #[.int .i64 (k : Int)])
              have HBB := hide (bN #[] #[.int .i64 (k : Int)])
              have HBC := hide (bN #[.int .i64 (k : Int)] #[])
              have HOA := hide (show (wr1.alloc (.cells #[] 3)).drew.ownsRow wr1.heap.size 3 1 (.slice (some ⟨wr1.heap.size, 0, none⟩) 0 0) 0 [] from World.ownsRow_lit wr1 #[] 0 (Nat.le_refl _) (by simp [maxLen]) rfl)
              have HOB := hide (show ((wr1.alloc (.cells #[] 3)).alloc (.cells #[.int .i64 (k : Int)] 3)).drew.ownsRow wr1.heap.size 3 1 (.slice (some ⟨wr1.heap.size, 0, none⟩) 0 0) 0 [] from World.ownsRow.alloc (World.ownsRow_lit wr1 #[] 0 (Nat.le_refl _) (by simp [maxLen]) rfl) _)
              have HOC := hide (show ((wr1.alloc (.cells #[.int .i64 (k : Int)] 3)).alloc (.cells #[] 3)).drew.ownsRow wr1.heap.size 3 1 (.slice (some ⟨wr1.heap.size + 1, 0, none⟩) 0 0) 0 [] from by
                have h := World.ownsRow_lit (base := wr1.heap.size) (e := 3) (size := 1) (wr1.alloc (.cells #[.int .i64 (k : Int)] 3)) #[] 0 (by simp) (by simp [maxLen]) rfl
                rw [show (wr1.alloc (.cells #[.int .i64 (k : Int)] 3)).heap.size = wr1.heap.size + 1 by simp] at h
                exact h)
              have HGB := hide (show ((wr1.alloc (.cells #[] 3)).alloc (.cells #[.int .i64 (k : Int)] 3)).drew.heap[wr1.heap.size + 1]? = some (.cells #[.int .i64 (k : Int)] 3 (0, 0)) from by
                have h := heap_alloc_new (wr1.alloc (.cells #[] 3)) (.cells #[.int .i64 (k : Int)] 3)
                rw [show (wr1.alloc (.cells #[] 3)).heap.size = wr1.heap.size + 1 by simp] at h
                exact h)
              have HGC := hide (show ((wr1.alloc (.cells #[.int .i64 (k : Int)] 3)).alloc (.cells #[] 3)).drew.heap[wr1.heap.size]? = some (.cells #[.int .i64 (k : Int)] 3 (0, 0)) from box_alloc (heap_alloc_new wr1 _))
              clear bN b1
              go_region_held3 (fun wx => wx.cell? ⟨w.heap.size, 0, none⟩ = some (.slice AE nE cE) ∧ wx.cell? ⟨w.heap.size, 1, none⟩ = some (.slice AC nC cC) ∧ wx.cell? ⟨w.heap.size, 2, none⟩ = some (.slice (some ⟨bf, of, none⟩) fin.length cF) ∧ wx.cell? ⟨w.heap.size, 3, none⟩ = some (.slice (some ⟨be, oe, none⟩) edges.length cX) ∧ wx.cell? ⟨be, oe + k * 6 + 1, none⟩ = some (.int .i64 (tn : Int)))
                (first | (with_reducible assumption) | exact ⟨y0, y1, y2, y3, e1⟩ | (with_reducible exact HSC.out _ HBA.out) | (with_reducible exact HSC.out _ HBI.out) | (with_reducible exact HSC.out _ HBB.out) | (with_reducible exact HSC.out _ HBC.out) | (with_reducible exact s4) | (with_reducible exact s4') | (with_reducible exact s5) | (with_reducible exact s8) | fail)
                (first
                  | (refine step_append_src rfl (.tmp 54) (.tmp 55) 43 rfl wr1.heap.size 3 i0 _ 1 8 Tryz.underlying43 hi0 hz0 hz1 hz2 rfl (by decide) (.slice (some ⟨_, 0, none⟩) 0 0) 0 [] rfl (by first | (with_reducible exact HOA.out) | (with_reducible exact HOB.out) | (with_reducible exact HOC.out)) PA path.length pc (path.map (Value.int .i64)) rfl (by simp) (by first | (with_reducible exact HSRC.out _ HBA.out) | (with_reducible exact HSRC.out _ HBB.out) | (with_reducible exact HSRC.out _ HBC.out)) (by simp [Value.oneCell']) (by simp only [maxLen]; omega) (by omega) (by first | exact HBA.out.size | exact HBB.out.size | exact HBC.out.size) ?_
                     intro v4 w4 hown4 hg4
                     have hb4 : Below wr1.heap.size wr1 w4 := by
                       first
                         | exact HBA.out.grown hg4 HBA.out.size (fun k hk => by simp [Value.ownBlock] at hk; omega)
                         | exact HBB.out.grown hg4 HBB.out.size (fun k hk => by simp [Value.ownBlock] at hk; omega)
                         | exact HBC.out.grown hg4 HBC.out.size (fun k hk => by simp [Value.ownBlock] at hk; omega)
                     have ho4' : w4.ownsRow wr1.heap.size 3 1 v4 path.length (path.map (Value.int .i64)) := by simpa using hown4
                     obtain ⟨VA, c4, rfl, hV, hcV⟩ := ints_of_row (xs := path) ho4'
                     try (have gm4 := box_grown (N := wr1.heap.size + 1) HGB.out hg4 (by simp [Value.ownBlock]))
                     try (have gm4 := box_grown (N := wr1.heap.size) HGC.out hg4 (by simp [Value.ownBlock]))
                     have s4 := HSC.out w4 hb4
                     have HB4' := hide (hb4.alloc hb4.size (.cells #[.int .i64 (k : Int)] 3))
                     have s4' := HSC.out _ HB4'.out
                     have HOW4 := hide ho4'
                     have HB4 := hide hb4
                     clear hV hcV hb4 hg4 hown4 ho4')
                  | (refine step_append_src rfl (.tmp 56) (.tmp 58) 43 rfl wr1.heap.size 3 i0 _ 1 8 Tryz.underlying43 hi0 hz0 hz1 hz2 rfl (by decide) (.slice VA path.length c4) path.length (path.map (Value.int .i64)) rfl (by first | (with_reducible exact HOW4.out) | exact World.ownsRow.alloc HOW4.out _) _ 1 1 [.int .i64 (k : Int)] rfl rfl (by first | exact src_block (t := 3) (fr := (0, 0)) gm4 | exact src_block (t := 3) (fr := (0, 0)) (heap_alloc_new w4 _)) (by simp [Value.oneCell']) (by simp only [maxLen]; omega) (by omega) (by first | exact HB4.out.size | exact HB4'.out.size) ?_
                     intro v5 w5 hown5 hg5
                     have hb5 : Below wr1.heap.size wr1 w5 := by
                       first
                         | exact HB4.out.grown hg5 HB4.out.size (fun k hk => (own_ob HOW4.out k (by rw [ob_eq] at hk; exact hk)).1)
                         | exact HB4'.out.grown hg5 HB4'.out.size (fun k hk => (own_ob HOW4.out k (by rw [ob_eq] at hk; exact hk)).1)
                     obtain ⟨V5, c5, rfl, hV5, hcV5⟩ := ints_of_row (xs := path ++ [(k : Int)]) (by simpa using hown5)
                     have s5 := HSC.out w5 hb5
                     have HCALL := hide (IH.out (n - 1) hnm tn (path ++ [(k : Int)]) V5 c5 A2 c2 rows2 w5 htl hpm (HAK.out w5 ((HK0.out.trans (.refl _ _) K2.out).trans (M2.out.same HB0.out.size) (.below hb5))) (ST2.out.below hb5) q3 (hV5.more fun b hb => ⟨hb.2, by have := hb.1; have := ST2.out.lt; have := ST2.out.le; omega, fun e => by have := (own_ob ST2.out.own b e).2; have := hb.1; omega⟩))
                     rw [HL.out] at HCALL
                     have HB5 := hide hb5
                     clear hV5 hcV5 hb5 hown5 hg5)
                  | (go_at_call 54
                     refine HCALL.out.mono ?_
                     rintro e w8 ⟨A8, c8, rows8, rfl, st8, k8, m8, x8⟩
                     have s8 := HSB.out w8 ((k8.block _ ((hfw.mov HB5.out.size (.refl _ _)))).trans (HB5.out.block _ hsz2)) ((k8.block _ (hfb.mov HB5.out.size (.refl _ _))).trans (HB5.out.block _ hbe2))
                     have HX8 := hide x8
                     have ST8 := hide st8
                     have K8 := hide k8
                     have M8 := hide m8
                     clear st8 k8 m8 x8)
                  | fail)
              all_goals
                have HX9 := hide (show (rows8.length ≤ X.most ∧ rows8.map SlI.xs = rows.map SlI.xs ++ psOf X n (q : Int) path (k + 1)) ∨ (X.most < rows8.length ∧ X.most < rows.length + (psOf X n (q : Int) path (k + 1)).length) from by
                  have hx2 := X2.out.resolve_right (fun h => by have := h.1; omega)
                  have h2 := congrArg List.length hx2.2
                  rw [List.length_map, List.length_append, List.length_map] at h2
                  rcases HX8.out with ⟨h3, h4⟩ | ⟨h3, h4⟩
                  · exact .inl ⟨h3, by rw [h4, hx2.2, HTK.out, List.append_assoc]⟩
                  · exact .inr ⟨h3, by rw [HTK.out, List.length_append]; omega⟩)
                have HK9 := hide ((K2.out.trans M2.out (.below HB5.out)).trans (M2.out.trans K2.out.size (PMov.refl A2 wr1)) K8.out)
                have HM9 := hide (M2.out.trans K2.out.size (M8.out.same HB5.out.size))
                clear hn1 hpm hnm
                go_wp2_with fail
                exact ⟨⟨k + 1, A8, c8, rows8, by rw [HAA.out]; exact q1, by go_num, rfl, ST8.out, HK9.out, HM9.out, HX9.out⟩, by simp [intOf]; omega⟩
            · have T4 : (f == (q : Int)) = false := beq_eq_false_iff_ne.2 hf
              have HNX := hide (psOf_skip (X := X) (n := n) (path := path) HE.out (.inl hf))
              clear hf
              go_wp2_with fail
              exact ⟨⟨k + 1, A2, c2, rows2, by rw [HAA.out]; exact q1, by go_num, rfl, ST2.out, K2.out, M2.out, by rw [HNX.out]; exact X2.out⟩, by simp [intOf]; omega⟩
          · have T1 : decide (k < edges.length) = true := decide_eq_true q1
            have T2 : decide (path.length < X.len) = true := decide_eq_true q2
            have T3 : decide (rows2.length ≤ X.most) = false := decide_eq_false q3
            have HFIN := hide (HEND.out (.inr (.inr (by omega))))
            clear q1 q2 q3
            go_wp2_with fail
            go_ret
            exact HFIN.out
        · have T1 : decide (k < edges.length) = true := decide_eq_true q1
          have T2 : decide (path.length < X.len) = false := decide_eq_false q2
          have HFIN := hide (HEND.out (.inr (.inl (by omega))))
          clear q1 q2
          go_wp2_with fail
          go_ret
          exact HFIN.out
      · have T1 : decide (k < edges.length) = false := decide_eq_false q1
        have HFIN := hide (HEND.out (.inl (by omega)))
        clear q1
        go_wp2_with fail
        go_ret
        exact HFIN.out

end Go.Proofs.YtgobkbjkndfliaaGreatDoor
