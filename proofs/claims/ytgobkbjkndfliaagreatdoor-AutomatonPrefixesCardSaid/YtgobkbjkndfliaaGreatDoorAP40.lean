/-
  Several texts in one: PathsC. Each says at its head what it holds.
-/
import Derived.Test.YtgobkbjkndfliaaGreatDoorAP38
import Derived.Test.YtgobkbjkndfliaaGreatDoorAP39
import Derived.Test.YtgobkbjkndfliaaGreatDoorAP14
import Derived.Deep.RegionLawGrows
import Derived.Outline

/-
  The closure of automaton.Paths: it appends the paths from a state.
-/
namespace Go.Proofs.YtgobkbjkndfliaaGreatDoor
open Go.RowKit

/-- what a table of least numbers holds from a state on -/
def LstFrom (E : List Edg) (fin : List Bool) (ls : List Int) (k : Nat) : Prop := ∀ j, k ≤ j → j < fin.length → LeastN E fin (j : Int) (ls.getD j 0)
/-- the numbers of the search: the automaton, the table, the greatest length, the limit -/
structure PEn where
  a : Aut
  ls : List Int
  len : Nat
  most : Nat
/-- the boxes of the search -/
structure PBx where
  a : Nat
  o : Nat
  m : Nat
  l : Nat
  n : Nat
  w : Nat
  g : Nat
def PBx.caps (B : PBx) : Array Value := #[.pointer (some ⟨B.a, 0, none⟩), .pointer (some ⟨B.o, 0, none⟩), .pointer (some ⟨B.m, 0, none⟩), .pointer (some ⟨B.l, 0, none⟩), .pointer (some ⟨B.n, 0, none⟩), .pointer (some ⟨B.w, 0, none⟩)]
structure PEnv (X : PEn) (B : PBx) (base : Nat) (W : World) : Prop where
  a : W.heap[B.a]? = some (.cells (encA X.a).toArray 30 (0, 0))
  m : W.heap[B.m]? = some (.cells #[.int .i64 X.most] 3 (0, 0))
  l : W.heap[B.l]? = some (.cells #[.slice (some ⟨B.g, 0, none⟩) X.a.fin.length X.a.fin.length] 43 (0, 0))
  n : W.heap[B.n]? = some (.cells #[.int .i64 X.len] 3 (0, 0))
  w : W.heap[B.w]? = some (.cells #[.func (.func 52) #[] B.caps] 81 (0, 0))
  ls : ArI W B.g X.ls
  aut : AutAt W (fun b => b < base ∧ b ≠ B.o) X.a
  low : (B.a < base ∧ B.m < base ∧ B.l < base ∧ B.n < base ∧ B.w < base ∧ B.g < base) ∧ (B.a ≠ B.o ∧ B.m ≠ B.o ∧ B.l ≠ B.o ∧ B.n ≠ B.o ∧ B.w ≠ B.o ∧ B.g ≠ B.o)
/-- what is known of the numbers -/
structure POk (X : PEn) : Prop where
  valid : validB X.a = true
  edges : X.a.edges.length ≤ 1000
  lsl : X.ls.length = X.a.fin.length
  bnd : ∀ v ∈ X.ls, 0 ≤ v ∧ v ≤ 1048576
  lst : LstFrom X.a.edges X.a.fin X.ls 0
  len : X.len ≤ 1000
  most : X.most ≤ 100000
theorem PEnv.keep {X : PEn} {B : PBx} {base c : Nat} {A : Option Addr} {rows : List SlI} {W W' : World} (h : PEnv X B base W) (st : PthSt B.o base A c rows W) (k : PKeep B.o A W W') : PEnv X B base W' := by
  obtain ⟨⟨l1, l2, l3, l4, l5, l6⟩, n1, n2, n3, n4, n5, n6⟩ := h.low
  exact ⟨(k.block _ (st.free l1 n1)).trans h.a, (k.block _ (st.free l2 n2)).trans h.m, (k.block _ (st.free l3 n3)).trans h.l, (k.block _ (st.free l4 n4)).trans h.n, (k.block _ (st.free l5 n5)).trans h.w, (k.block _ (st.free l6 n6)).trans h.ls, h.aut.stay fun b hb => k.block b (st.free hb.1 hb.2), h.low⟩

/-- the paths from a state behind a path -/
def psOf (X : PEn) (n : Nat) (s : Int) (path : List Int) (i : Nat) : List (List Int) := (pathsJ X.a.edges X.a.fin n s i).map fun p => path ++ up p
def psAll (X : PEn) (n : Nat) (s : Int) (path : List Int) : List (List Int) := (pathsF X.a.edges X.a.fin n s).map fun p => path ++ up p
/-- the search goes on, or the limit is reached -/
def WalkPost (B : PBx) (base : Nat) (A : Option Addr) (rows : List SlI) (ps : List (List Int)) (most : Nat) (W : World) (e : Ending) (W' : World) : Prop :=
  ∃ A' c' rows' b, e = .returned (.bool b) ∧ PthSt B.o base A' c' rows' W' ∧ PKeep B.o A W W' ∧ PMov A A' W ∧ rows'.length ≤ most ∧ (b = true → rows'.map SlI.xs = rows.map SlI.xs ++ ps) ∧ (b = true ↔ rows.length + ps.length ≤ most)
/-- in the loop over the edges -/
def WalkRel (X : PEn) (B : PBx) (base : Nat) (A : Option Addr) (rows : List SlI) (n : Nat) (s : Int) (path : List Int) (W : World) (i : Value) (wr : World) : Prop :=
  ∃ (k : Nat) (A' : Option Addr) (c' : Nat) (rows' : List SlI), k ≤ X.a.edges.length ∧ i = .int .i64 k ∧ PthSt B.o base A' c' rows' wr ∧ PKeep B.o A W wr ∧ PMov A A' W ∧ rows'.length ≤ X.most ∧ rows'.map SlI.xs = rows.map SlI.xs ++ psOf X n s path k

theorem undrew {w w' : World} (h : Below w.drew.heap.size w.drew w') : Below w.heap.size w w' := ⟨h.os, h.tape, h.output, h.size, h.block⟩
theorem PMov.same {A A' : Option Addr} {W W' : World} (h : PMov A A' W') (hs : W.heap.size ≤ W'.heap.size) : PMov A A' W := h.elim .inl fun ⟨g, h1, h2⟩ => .inr ⟨g, h1, by omega⟩
theorem psOf_zero {X : PEn} {n : Nat} {s : Int} {path : List Int} (h : X.a.fin.getD s.toNat false = false) : psOf X n s path 0 = [] := by
  unfold psOf
  rw [pathsJ_zero]
  unfold hereP
  rw [h]
  rfl
theorem psOf_here {X : PEn} {n : Nat} {s : Int} {path : List Int} (h : X.a.fin.getD s.toNat false = true) : psOf X n s path 0 = [path] := by
  unfold psOf
  rw [pathsJ_zero]
  unfold hereP
  rw [h]
  simp [up]
theorem psOf_all {X : PEn} {n : Nat} {s : Int} {path : List Int} : psOf X n s path X.a.edges.length = psAll X n s path := by
  unfold psOf psAll
  rw [pathsJ_all]
theorem psOf_len {X : PEn} {n i : Nat} {s : Int} {path : List Int} (hi : i ≤ X.a.edges.length) : (psOf X n s path i).length ≤ (psAll X n s path).length := by
  rw [← psOf_all]
  unfold psOf
  rw [List.length_map, List.length_map]
  exact pathsJ_le hi
theorem psOf_skip {X : PEn} {n i : Nat} {s : Int} {path : List Int} {e : Edg} (he : X.a.edges[i]? = some e) (h : e.from_ ≠ s ∨ (n = 0 ∨ ∃ m, n = m + 1 ∧ pathsF X.a.edges X.a.fin m e.to_ = [])) : psOf X n s path (i + 1) = psOf X n s path i := by
  unfold psOf
  rcases h with h | h
  · rw [pathsJ_far he h]
  · rw [pathsJ_none he h]
theorem psOf_take {X : PEn} {m i : Nat} {s : Int} {path : List Int} {e : Edg} (he : X.a.edges[i]? = some e) (h : e.from_ = s) : psOf X (m + 1) s path (i + 1) = psOf X (m + 1) s path i ++ psAll X m e.to_ (path ++ [(i : Int)]) := by
  unfold psOf psAll
  rw [pathsJ_take rfl he h, List.map_append, List.map_map]
  congr 1
  refine List.map_congr_left fun p _ => ?_
  simp [up, Function.comp]

theorem psAll_here {X : PEn} {n : Nat} {s : Int} {path : List Int} (h : X.a.fin.getD s.toNat false = true) : 0 < (psAll X n s path).length := by
  have h1 := psOf_len (X := X) (n := n) (s := s) (path := path) (Nat.zero_le X.a.edges.length)
  rw [psOf_here h] at h1
  exact h1

set_option maxRecDepth 100000 in
set_option maxHeartbeats 4000000 in
theorem pwalk_any (X : PEn) (B : PBx) (base : Nat) (ok : POk X) (n : Nat) : ∀ (q : Nat) (path : List Int) (PA : Option Addr) (pc : Nat) (A : Option Addr) (c : Nat) (rows : List SlI) (w : World),
    q < X.a.fin.length → path.length + n = X.len → PEnv X B base w → PthSt B.o base A c rows w → rows.length ≤ X.most → Row w (Free B.o A w) 1 cInt PA path → path.length ≤ pc →
    Calls Tryz.prog 52 #[.int .i64 (q : Int), .slice PA path.length pc, .pointer (some ⟨B.a, 0, none⟩), .pointer (some ⟨B.o, 0, none⟩), .pointer (some ⟨B.m, 0, none⟩), .pointer (some ⟨B.l, 0, none⟩), .pointer (some ⟨B.n, 0, none⟩), .pointer (some ⟨B.w, 0, none⟩)] w (WalkPost B base A rows (psAll X n (q : Int) path) X.most w) := by
  induction n using Nat.strongRecOn with
  | _ n ih =>
  intro q path PA pc A c rows w hq hpl env st hrm hpa hpc
  have IH := hide ih
  have OK := hide ok
  have ENV := hide env
  have ST := hide st
  have HPA := hide hpa
  obtain ⟨v1, v2, v3, v4⟩ := valid_states ok.valid
  have HV4 := hide v4
  have hmost := ok.most
  have hlen := ok.len
  have hed := ok.edges
  have ea := env.a
  obtain ⟨a', ha'⟩ : ∃ a', X.a = a' := ⟨_, rfl⟩
  have HAA := hide ha'
  rw [ha'] at ea hed hq v1 v2
  obtain ⟨AE, nE, cE, AC, nC, cC, AF, cF, fin, AX, cX, edges⟩ := a'
  unfold encA at ea
  dsimp only at ea hed hq v1 v2
  have HEA := hide ea
  obtain ⟨y0, y1, y2, y3, -⟩ := box4 ea
  have haut := env.aut
  rw [ha'] at haut
  obtain ⟨bf, of, hAF, hbf, e0⟩ := haut.fin.bool_at hq
  dsimp only at hAF
  subst hAF
  have HFQ := hide (show X.a.fin.getD ((q : Int)).toNat false = fin[q] from by rw [ha', Int.toNat_natCast, List.getD_eq_getElem?_getD, List.getElem?_eq_getElem hq]; rfl)
  generalize fin[q] = fq at *
  clear ih ok v3 v4 hpa ha' ea haut env st
  go_enter Tryz.func52, Tryz.ntmps52
  go_upto_if 17 with (fail)
  go_cut [10] (fun v wx => v = .bool false ∧ ∃ A' c' rows', PthSt B.o base A' c' rows' wx ∧ PKeep B.o A w wx ∧ PMov A A' w ∧ rows'.length ≤ X.most ∧ rows'.map SlI.xs = rows.map SlI.xs ++ psOf X n (q : Int) path 0)
  case first =>
    clear y0 y1 y2 y3 e0
    cases fq with
    | false =>
      go_wp2_with fail
      go_meet
      exact ⟨rfl, A, c, rows, ST.out, .refl _ _ _, .refl _ _, hrm, by rw [psOf_zero HFQ.out, List.append_nil]⟩
    | true =>
      have bo := ST.out.box
      have co := box_cell bo
      have cm := box_cell ENV.out.m
      clear bo
      by_cases hfull : rows.length = X.most
      · have T1 : ((rows.length : Int) == (X.most : Int)) = true := by rw [hfull]; exact beq_self_eq_true _
        have HFIN := hide (show WalkPost B base A rows (psAll X n (q : Int) path) X.most w (.returned (.bool false)) w from
          ⟨A, c, rows, false, rfl, ST.out, .refl _ _ _, .refl _ _, hrm, (fun e => by cases e), ⟨(fun e => by cases e), fun e => by have := psAll_here (X := X) (n := n) (s := (q : Int)) (path := path) HFQ.out; omega⟩⟩)
        clear hfull
        go_wp2_with fail
        go_ret
        exact HFIN.out
      · have T1 : ((rows.length : Int) == (X.most : Int)) = false := beq_eq_false_iff_ne.2 (by omega)
        have hrl : rows.length < X.most := by omega
        clear hfull
        obtain ⟨i0, hi0, hz0, hz1, hz2'⟩ := info_parts infoSl
        have HPD := hide (show Row w.drew (Free B.o A w) 1 cInt PA path from HPA.out)
        have HSD := hide (show PthSt B.o base A c rows w.drew from ⟨ST.out.box, ST.out.own, ST.out.each, ST.out.lt, ST.out.le⟩)
        have hbl := ST.out.le
        have hbb := ST.out.lt
        go_upto_region 4 with (fail)
        go_region_law
          (first
            | (go_simp
               go_at_call 53
               refine (cloneI_any (Free B.o A w) PA pc path w.drew HPD.out (by omega) (fun b hb => hb.1)).mono ?_
               rintro e w2 ⟨V, cap, rfl, hs2, b2⟩
               have hc2 := (b2.cell (p := ⟨B.o, 0, none⟩) (by show B.o < w.heap.size; omega)).trans co
               have hc3 := box_cell (HSD.out.below (b2.alloc b2.size (.cells #[.slice V path.length cap] 43))).box
               have HS2 := hide (HSD.out.below b2)
               have HR2 := hide (show Row w2 (Free B.o A w2) 1 cInt V path from hs2.more fun b hb => ⟨hb.2, by have := hb.1; simp at this; omega, fun e => by have := (own_ob HSD.out.own b e).2; have := hb.1; simp at *; omega⟩)
               have HB2 := hide b2
               have hz2 := b2.size
               clear hs2 b2)
            | (refine step_append_lies _ rfl _ _ 45 rfl base 43 i0 _ 1 24 Tryz.underlying45 hi0 hz0 hz1 hz2' rfl (by decide) (.slice A rows.length c) rows.length (rows.map celS) rfl (World.ownsRow.alloc HS2.out.own _) ⟨w2.heap.size, 0, none⟩ 1 1 [celS ⟨V, cap, path⟩] rfl rfl (World.news_of_block (cs := #[.slice V path.length cap]) (t := 43) (fr := (0, 0)) (heap_alloc_new w2 _)) (by simp [celS, Value.oneCell']) (by omega) (by simp only [maxLen]; omega) (by omega) (by simp at hz2 ⊢; omega) (w2.heap.size + 1) (by simp) ?_
               intro g1 e1 w5 hown5 hg5 hat5 hlt5
               rw [ob_eq] at hg5 hat5
               obtain ⟨p1, p2, p3, p4, p5⟩ := HS2.out.push (s := ⟨V, cap, path⟩) HR2.out rfl hown5 hg5 (by rw [World.size_alloc]; exact hat5)
               have HP3 := hide p3
               have HP4 := hide p4
               have HP5 := hide p5
               clear p3 p4 p5 hown5 hg5 hat5)
            | fail)
        all_goals
          go_wp2_with fail
          go_meet
          exact ⟨rfl, some ⟨g1, 0, none⟩, e1, rows ++ [⟨V, cap, path⟩], HP3.out, (PKeep.below (undrew HB2.out)).trans (.refl _ _) HP4.out, HP5.out.same (by simpa using HB2.out.size), by simp; omega, by simp [psOf_here HFQ.out]⟩
  case rest =>
    obtain ⟨rfl, A1, c1, rows1, st1, k1, m1, r1, x1⟩ := hcut
    have HBX := hide (fun (wx : World) (k : PKeep B.o A w wx) => (k.block _ (ST.out.free ENV.out.low.1.1 ENV.out.low.2.1)).trans HEA.out)
    have ST1 := hide st1
    have K1 := hide k1
    have M1 := hide m1
    have X1 := hide x1
    clear y0 y1 y2 y3 e0 st1 k1 m1 x1
    generalize wc = V at *
    obtain ⟨y0, y1, y2, y3, -⟩ := box4 (HBX.out V K1.out)
    go_wp2_with fail
    go_loopw [30] (fun i wr => WalkRel X B base A rows n (q : Int) path w i wr) (fun i _ => edges.length - (intOf i).toNat)
    case atStart => exact ⟨0, A1, c1, rows1, Nat.zero_le _, rfl, ST1.out, K1.out, M1.out, r1, X1.out⟩
    case round =>
      obtain ⟨wr1, rfl⟩ : ∃ w2 : World, w2 = wr := ⟨_, rfl⟩
      obtain ⟨k, A2, c2, rows2, hk, rfl, st2, k2, m2, r2, x2⟩ := hrel
      have ST2 := hide st2
      have K2 := hide k2
      have M2 := hide m2
      have X2 := hide x2
      clear y0 y1 y2 y3 st2 k2 m2 x2
      obtain ⟨y0, y1, y2, y3, -⟩ := box4 (HBX.out wr1 K2.out)
      have ENV2 := hide (ENV.out.keep ST.out K2.out)
      by_cases hlt : k < edges.length
      · have haw : AutAt wr1 (fun b => b < base ∧ b ≠ B.o) ⟨AE, nE, cE, AC, nC, cC, some ⟨bf, of, none⟩, cF, fin, AX, cX, edges⟩ := by have h := ENV2.out.aut; rw [HAA.out] at h; exact h
        obtain ⟨be, oe, ax, hbe, e0, e1, e2, e3, e4, e5⟩ := haw.edges.edg_at hlt
        dsimp only at ax
        subst ax
        have HE := hide (show X.a.edges[k]? = some edges[k] from by rw [HAA.out]; exact List.getElem?_eq_getElem hlt)
        have hto := HV4.out _ (show edges[k] ∈ X.a.edges from by rw [HAA.out]; exact List.getElem_mem hlt)
        rw [HAA.out] at hto
        dsimp only at hto
        generalize edges[k] = x at *
        obtain ⟨f, t, ev, wh, lo, hi⟩ := x
        dsimp only at e0 e1 e2 e3 e4 e5 hto
        obtain ⟨tn, htn⟩ := Int.eq_ofNat_of_zero_le hto.1
        subst htn
        have htl : tn < fin.length := by omega
        obtain ⟨W1, hW1⟩ : ∃ W1 : World, wr1.alloc (.cells #[.int .i64 f, .int .i64 (tn : Int), .int .i64 ev, .int .i64 wh, .int .i64 lo, .int .i64 hi] 39) = W1 := ⟨_, rfl⟩
        have g1 : W1.heap[wr1.heap.size]? = some (.cells #[.int .i64 f, .int .i64 (tn : Int), .int .i64 ev, .int .i64 wh, .int .i64 lo, .int .i64 hi] 39 (0, 0)) := by rw [← hW1]; exact heap_alloc_new wr1 _
        have hb1 : Below wr1.heap.size wr1 W1 := by rw [← hW1]; exact (Below.refl _ _).alloc (Nat.le_refl _) _
        have HB1 := hide hb1
        have HW1 := hide hW1
        have HG1 := hide g1
        go_upto_region 8 with (fail)
        clear hW1 hb1 y0 y1 y2 y3 e0 e1 e2 e3 e4 e5 haw hbe
        have ST12 := hide (ST2.out.below HB1.out)
        have K12 := hide (K2.out.trans M2.out (.below HB1.out))
        have M12 := hide (M2.out.trans K2.out.size (PMov.refl A2 wr1))
        have ENV12 := hide (ENV2.out.keep ST2.out (.below HB1.out))
        obtain ⟨f0, f1, -, -, -, -⟩ := box6 g1
        clear g1
        by_cases hf : f = (q : Int)
        · have T1 : (f != (q : Int)) = false := by simp [hf]
          have cl := box_cell ENV12.out.l
          have cn := box_cell ENV12.out.n
          rw [HAA.out] at cl
          dsimp only at cl
          have hls : tn < X.ls.length := by rw [OK.out.lsl, HAA.out]; exact htl
          have ct := ENV12.out.ls.cell (List.getElem?_eq_getElem hls)
          have hvb := OK.out.bnd _ (List.getElem_mem hls)
          have HLN := hide (show LeastN X.a.edges X.a.fin (tn : Int) X.ls[tn] from by
            have h := OK.out.lst tn (Nat.zero_le _) (by rw [HAA.out]; exact htl)
            rwa [List.getD_eq_getElem?_getD, List.getElem?_eq_getElem hls] at h)
          generalize X.ls[tn] = v at *
          have HF := hide hf
          clear hf hls
          by_cases hcut : X.len < path.length + 1 + v.toNat
          · have T2 : decide ((X.len : Int) < (path.length : Int) + 1 + v) = true := decide_eq_true (by omega)
            have HNX := hide (psOf_skip (X := X) (n := n) (path := path) HE.out (s := (q : Int)) (.inr (by
              rcases Nat.eq_zero_or_pos n with h0 | h0
              · exact .inl h0
              · exact .inr ⟨n - 1, by omega, least_none HLN.out (by omega) (by omega)⟩)))
            clear hcut
            go_quiet (fail)
            go_wp2_with fail
            exact ⟨⟨k + 1, A2, c2, rows2, by rw [HAA.out]; exact hlt, by go_num, ST12.out.below (below_drewN (Below.refl _ _) _), K12.out.trans M12.out (.below (below_drewN (Below.refl _ _) _)), M12.out, r2, by rw [HNX.out]; exact X2.out⟩, by simp [intOf]; omega⟩
          · have T2 : decide ((X.len : Int) < (path.length : Int) + 1 + v) = false := decide_eq_false (by omega)
            have hn1 : n = (n - 1) + 1 := by omega
            have HTK := hide (psOf_take (X := X) (m := n - 1) (path := path) HE.out HF.out)
            rw [← hn1] at HTK
            have HN1 := hide hn1
            have hnm : n - 1 < n := by omega
            have hpm : (path ++ [(k : Int)]).length + (n - 1) = X.len := by simp; omega
            clear hn1 hcut
            go_quiet (fail)
            obtain ⟨W2, hW2⟩ : ∃ W2, W1.drewN nq = W2 := ⟨_, rfl⟩
            have hb12 : Below W1.heap.size W1 W2 := by rw [← hW2]; exact below_drewN (Below.refl _ _) _
            have hb2 : Below wr1.heap.size wr1 W2 := bstep HB1.out hb12
            rw [hW2]
            have ST22 := hide (ST2.out.below hb2)
            have ENV22 := hide (ENV2.out.keep ST2.out (.below hb2))
            have hP0 : Row W2 (Free B.o A2 W2) 1 cInt PA path := row_keep (row_keep HPA.out K2.out M2.out) (.below hb2) (.refl _ _)
            have f1' : W2.cell? ⟨wr1.heap.size, 1, none⟩ = some (.int .i64 (tn : Int)) := by rw [← hW2]; exact f1
            have HB2 := hide hb2
            have cw := box_cell ENV22.out.w
            unfold PBx.caps at cw
            have lw : B.w < W2.heap.size := box_lt ENV22.out.w
            have le1 : wr1.heap.size < W2.heap.size := Nat.lt_of_lt_of_le (box_lt HG1.out) hb12.size
            have HP0 := hide hP0
            clear hW2 hb12 hb2 f0 f1 cl cn ct hP0 HW1 HG1
            have HL := hide (show (path ++ [(k : Int)]).length = path.length + 1 by simp)
            have HNO := hide (show PA = none → path.length = 0 ∧ path.length = 0 from fun e => by
              rcases path with _ | ⟨u, us⟩
              · exact ⟨rfl, rfl⟩
              · obtain ⟨_, _, e2, _⟩ := HP0.out (by simp)
                rw [e] at e2
                cases e2)
            obtain ⟨WA, hWA⟩ : ∃ WA, (W2.alloc (.cells #[.int .i64 (k : Int)] 3)).drew = WA := ⟨_, rfl⟩
            have hbA : Below W2.heap.size W2 WA := by rw [← hWA]; exact below_drew ((Below.refl _ _).alloc (Nat.le_refl _) _)
            have HSRC := hide (show ∀ b, PA = some b → ∀ (j : Nat) (u : Value), (path.map (Value.int .i64))[j]? = some u → (W2.alloc (.cells #[.int .i64 (k : Int)] 3)).drew.cell? (b.add j) = some u from fun b e j u hu => by
              rw [hWA]
              have hne : path.map (Value.int .i64) ≠ [] := fun e2 => by rw [e2] at hu; simp at hu
              obtain ⟨bb, off, e3, h3⟩ := (row_keep HP0.out (.below hbA) (.refl _ _)).src1 hne
              rw [e] at e3
              injection e3 with e3
              subst e3
              rw [addr_add]
              exact h3 j u hu)
            have s0 := And.intro ((hbA.cell (p := ⟨B.w, 0, none⟩) lw).trans cw) ((hbA.cell (p := ⟨wr1.heap.size, 1, none⟩) le1).trans f1')
            rw [← hWA] at s0
            have HBA := hide hbA
            have HWA := hide hWA
            have HNEW := hide (show ∀ (j : Nat) (u : Value), [Value.int .i64 (k : Int)][j]? = some u → (W2.alloc (.cells #[.int .i64 (k : Int)] 3)).drew.cell? ((⟨W2.heap.size, 0, none⟩ : Addr).add j) = some u from World.news_of_block (cs := #[.int .i64 (k : Int)]) (t := 3) (fr := (0, 0)) (heap_alloc_new W2 _))
            clear hWA hbA
            go_upto_region 9 with (fail)
            obtain ⟨i0, hi0, hz0, hz1, hz2'⟩ := info_parts infoInt
            go_region_held3 (fun wx => wx.cell? ⟨B.w, 0, none⟩ = some (.func (.func 52) #[] #[.pointer (some ⟨B.a, 0, none⟩), .pointer (some ⟨B.o, 0, none⟩), .pointer (some ⟨B.m, 0, none⟩), .pointer (some ⟨B.l, 0, none⟩), .pointer (some ⟨B.n, 0, none⟩), .pointer (some ⟨B.w, 0, none⟩)]) ∧ wx.cell? ⟨wr1.heap.size, 1, none⟩ = some (.int .i64 (tn : Int)))
              (first | (with_reducible assumption) | exact ⟨cw, f1'⟩ | exact s0 | exact s1 | exact s2 | fail)
              (first
                | (refine step_append_grows rfl (.tmp 60) (.tmp 62) 43 rfl 3 i0 _ 1 8 Tryz.underlying43 hi0 hz0 hz1 hz2' rfl (by decide) PA path.length path.length (path.map (Value.int .i64)) rfl HNO.out (by simp) HSRC.out ⟨W2.heap.size, 0, none⟩ 1 1 [.int .i64 (k : Int)] rfl rfl HNEW.out (by simp [Value.oneCell']) (by omega) (by simp only [maxLen]; omega) (by omega) ?_
                   intro v3 w3 hown3 hg3
                   rw [HWA.out] at hown3 hg3
                   obtain ⟨V, c3, rfl, hV, hcV⟩ := ints_of_row (xs := path ++ [(k : Int)]) (by simpa using hown3)
                   have hbA3 : Below W2.heap.size W2 w3 := HBA.out.grown hg3 HBA.out.size (fun _ e => by cases e)
                   have s1 := And.intro ((hbA3.cell (p := ⟨B.w, 0, none⟩) lw).trans cw) ((hbA3.cell (p := ⟨wr1.heap.size, 1, none⟩) le1).trans f1')
                   have ENV3 := hide (ENV22.out.keep ST22.out (.below hbA3))
                   have ST3 := hide (ST22.out.below hbA3)
                   have HCALL := hide (IH.out (n - 1) hnm tn (path ++ [(k : Int)]) V c3 A2 c2 rows2 w3 (by rw [HAA.out]; exact htl) hpm ENV3.out ST3.out r2 (hV.more fun b hb => ⟨hb.2, by have := hb.1; have := HBA.out.size; have := ST22.out.lt; have := ST22.out.le; omega, fun e => by have := (own_ob ST22.out.own b e).2; have := hb.1; have := HBA.out.size; omega⟩) hcV)
                   rw [HL.out] at HCALL
                   have HB3 := hide hbA3
                   clear hV hcV hbA3 hown3 hg3)
                | (go_at_call 52
                   refine HCALL.out.mono ?_
                   rintro e w4 ⟨A4, c4, rows4, b4, rfl, st4, k4, m4, r4, x4, t4⟩
                   have cw4 := box_cell (ENV3.out.keep ST3.out k4).w
                   unfold PBx.caps at cw4
                   have s2 := And.intro cw4 ((World.cell?_of_block (a := ⟨wr1.heap.size, 1, none⟩) (k4.block _ ⟨Nat.lt_of_lt_of_le le1 HB3.out.size, (show wr1.heap.size ≠ B.o from by have := ST2.out.lt; have := ST2.out.le; omega), (show ob A2 ≠ some wr1.heap.size from fun e => Nat.lt_irrefl _ (own_ob ST2.out.own _ e).2)⟩)).trans s1.2)
                   clear cw4
                   have HX4 := hide x4
                   have HT4 := hide t4
                   have ST4 := hide st4
                   have K4 := hide k4
                   have M4 := hide m4
                   clear st4 k4 m4 x4 t4)
                | fail)
            have hbW := bstep HB2.out HB3.out
            have K34 := hide ((PKeep.below (Bo := B.o) (A := A2) hbW).trans (PMov.refl _ _) K4.out)
            have M34 := hide (M4.out.same hbW.size)
            have LPS := hide (psOf_len (X := X) (n := n) (s := (q : Int)) (path := path) (show k + 1 ≤ X.a.edges.length from by rw [HAA.out]; exact hlt))
            have hx2 := congrArg List.length X2.out
            rw [List.length_map, List.length_append, List.length_map] at hx2
            clear hbW hpm hnm
            cases b4 with
            | true =>
              go_wp2_with fail
              exact ⟨⟨k + 1, A4, c4, rows4, by rw [HAA.out]; exact hlt, by go_num, ST4.out, K2.out.trans M2.out K34.out, M2.out.trans K2.out.size M34.out, r4, by rw [HX4.out rfl, X2.out, HTK.out, List.append_assoc]⟩, by simp [intOf]; omega⟩
            | false =>
              have HFIN := hide (show WalkPost B base A rows (psAll X n (q : Int) path) X.most w (.returned (.bool false)) w4 from
                ⟨A4, c4, rows4, false, rfl, ST4.out, K2.out.trans M2.out K34.out, M2.out.trans K2.out.size M34.out, r4, (fun e => by cases e), ⟨(fun e => by cases e), fun e => by
                  have h1 : ¬ rows2.length + (psAll X (n - 1) (tn : Int) (path ++ [(k : Int)])).length ≤ X.most := fun h => by have := HT4.out.2 h; cases this
                  have h2 := LPS.out
                  rw [HTK.out, List.length_append] at h2
                  omega⟩⟩)
              go_wp2_with fail
              go_ret
              exact HFIN.out
        · have T1 : (f != (q : Int)) = true := by simp [hf]
          have HNX := hide (psOf_skip (X := X) (n := n) (path := path) HE.out (.inl hf))
          clear hf
          go_quiet (fail)
          go_wp2_with fail
          exact ⟨⟨k + 1, A2, c2, rows2, by rw [HAA.out]; exact hlt, by go_num, ST12.out.below (below_drewN (Below.refl _ _) _), K12.out.trans M12.out (.below (below_drewN (Below.refl _ _) _)), M12.out, r2, by rw [HNX.out]; exact X2.out⟩, by simp [intOf]; omega⟩
      · have hke : k = edges.length := by have h := hk; rw [HAA.out] at h; dsimp only at h; omega
        have HFIN := hide (show WalkPost B base A rows (psAll X n (q : Int) path) X.most w (.returned (.bool true)) wr1 from by
          have h := X2.out
          rw [hke, show edges.length = X.a.edges.length by rw [HAA.out], psOf_all] at h
          have h2 := congrArg List.length h
          rw [List.length_map, List.length_append, List.length_map] at h2
          exact ⟨A2, c2, rows2, true, rfl, ST2.out, K2.out, M2.out, r2, fun _ => h, fun _ => by omega, fun _ => rfl⟩)
        clear hke
        go_wp2_with fail
        go_ret
        exact HFIN.out

end Go.Proofs.YtgobkbjkndfliaaGreatDoor
