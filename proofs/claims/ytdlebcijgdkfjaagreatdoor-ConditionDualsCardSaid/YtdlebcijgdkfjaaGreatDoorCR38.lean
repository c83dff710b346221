/-
  Several texts in one: Few51, Reads51. Each says at its head what it holds.
-/
import Derived.Test.YtdlebcijgdkfjaaGreatDoorCR31
import Derived.Test.YtdlebcijgdkfjaaGreatDoorCR32
import Derived.Test.YtdlebcijgdkfjaaGreatDoorCR37
import Derived.Test.YtdlebcijgdkfjaaGreatDoorCR2
import Derived.Test.YtdlebcijgdkfjaaGreatDoorCR33

/-
  wavestorelaw51.few: the wave and the tree are small.
-/
namespace Go.Proofs.YtdlebcijgdkfjaaGreatDoor
open Go.RowKit

def Few51Post (v : Wv) (n : Nd) (w : World) (e : Ending) (w' : World) : Prop := ∃ b : Bool, e = .returned (.bool b) ∧ (b = true → SmallOk v ∧ FewOk 60 n) ∧ Below w.heap.size w w'
theorem SigsAt.grow {w w' : World} {A : Option Addr} {l : List Sgn} (h : SigsAt w (Lo w.heap.size) A l) (hb : Below w.heap.size w w') : SigsAt w' (Lo w'.heap.size) A l := ⟨h.row.grow hb, fun s hs => (h.each s hs).grow hb⟩

set_option maxRecDepth 100000 in
set_option maxHeartbeats 4000000 in
theorem few51_any (v : Wv) (gs : List (Int × Int)) (n : Nd) (w : World) (hS : SigsAt w (Lo w.heap.size) v.A v.sigs) (hG : Row w (Lo w.heap.size) 2 cGp v.G gs) (hgn : v.gn = gs.length) (hsz : ∀ s ∈ v.sigs, ∀ c ∈ s.chs, c.val.size ≤ 9223372036854775807) (ht : TreesAt w (Lo w.heap.size) n.KA n.kids) :
    Calls Tryz.prog 12 #[.agg (cWv v).toArray, .agg (cNd n).toArray] w (Few51Post v n w) := by
  have HSM := hide (fun (W : World) (hb : Below w.heap.size w W) => small_any v gs W (hS.grow hb) (hG.grow hb) hgn hsz)
  have HFW := hide (fun (W : World) (hb : Below w.heap.size w W) => few49_any 60 (by decide) n W (ht.grow hb))
  have HCL := hide (fun (W : World) (hb : Below w.heap.size w W) (h : FewOk 60 n) => clean_any n W (ht.grow hb) h)
  have HE := hide (fun (o : Bool) (wr : World) (h : o = true → SmallOk v ∧ FewOk 60 n) (hb : Below w.heap.size w wr) => show Few51Post v n w (.returned (.bool o)) wr from ⟨o, rfl, h, hb⟩)
  clear hS hG hgn hsz ht
  obtain ⟨A, cA, sigs, G, gn, cG, fin⟩ := v
  obtain ⟨kind, at_, name, value, a, b, c, d, KA, kc, kids⟩ := n
  unfold cWv cNd at *
  dsimp only at *
  generalize hvv : Wv.mk A cA sigs G gn cG fin = v at *
  generalize hnn : Nd.mk kind at_ name value a b c d KA kc kids = n at *
  clear hvv hnn
  obtain ⟨W0, hW0⟩ : ∃ W0, (w.alloc (.cells #[.slice A sigs.length cA, .slice G gn cG, .int .i64 fin] 29)).alloc (.cells #[.int .i64 kind, .int .i64 at_, .string name, .string value, .int .i64 a, .int .i64 b, .int .i64 c, .int .i64 d, .slice KA kids.length kc] 32) = W0 := ⟨_, rfl⟩
  obtain ⟨p0, p1, hb0⟩ := chain2 _ _ _ hW0
  have HB0 := hide hb0
  have HG0 := hide p0
  have HG1 := hide p1
  have hl0 := box_lt p0
  have hl1 := box_lt p1
  have c0 := cell_of_row W0 w.heap.size 0 _ _ (0, 0) p0
  have c1 := cell_of_row W0 w.heap.size 1 _ _ (0, 0) p0
  have c2 := cell_of_row W0 w.heap.size 2 _ _ (0, 0) p0
  simp only [List.getElem?_toArray, List.getElem?_cons_zero, List.getElem?_cons_succ] at c0 c1 c2
  have HW0 := hide hW0
  clear hW0 p0 p1 hb0
  go_enter Tryz.func12, Tryz.ntmps12
  go_upto_region 1 with (fail)
  rw [HW0.out]
  go_wp2_with fail
  refine (HSM.out W0 HB0.out).mono ?_
  rintro e w1 ⟨b1, rfl, hs1, hb1⟩
  have HS1 := hide hs1
  have HB1 := hide (bstep HB0.out hb1)
  obtain ⟨y0, y1, y2, y3, y4, y5, y6, y7, y8⟩ := box9 ((hb1.block _ hl1).trans HG1.out)
  have HG11 := hide ((hb1.block _ hl1).trans HG1.out)
  have hl11 := box_lt ((hb1.block _ hl1).trans HG1.out)
  clear hs1 hb1 c0 c1 c2
  cases b1 with
  | false =>
    go_wp2_with fail
    go_ret
    exact HE.out false _ (fun h => by cases h) HB1.out
  | true =>
    go_wp2_with fail
    refine (HFW.out w1 HB1.out).mono ?_
    rintro e w2 ⟨b2, rfl, hs2, hb2⟩
    have HB2 := hide (bstep HB1.out hb2)
    clear y0 y1 y2 y3 y4 y5 y6 y7 y8
    obtain ⟨y0, y1, y2, y3, y4, y5, y6, y7, y8⟩ := box9 ((hb2.block _ hl11).trans HG11.out)
    have HS2 := hide hs2
    clear hs2 hb2
    cases b2 with
    | false =>
      go_wp2_with fail
      go_ret
      exact HE.out false _ (fun h => by cases h) HB2.out
    | true =>
      have HCX := hide (HCL.out w2 HB2.out (HS2.out rfl))
      go_wp2_with fail
      refine HCX.out.mono ?_
      rintro e w3 ⟨b3, rfl, hb3⟩
      have HB3 := hide (bstep HB2.out hb3)
      clear hb3 y0 y1 y2 y3 y4 y5 y6 y7 y8
      go_wp2_with fail
      go_ret
      exact HE.out b3 _ (fun _ => ⟨HS1.out (by first | trivial | rfl), HS2.out (by first | trivial | rfl)⟩) HB3.out

end Go.Proofs.YtdlebcijgdkfjaaGreatDoor

/-
  Waves and trees of nodes, read out of the arguments.
-/
namespace Go.Proofs.YtdlebcijgdkfjaaGreatDoor
open Go.ChangeShapes Go.WideShapes Go.ChangeAt Go.RowKit Go.Deep

section
variable {H : Type} {enc : TypeId × Value → H} {P : Program} {W : World} {base : Nat} {spare : Nat → Bool} {held : Bool}
theorem rd_slice_lt {α : Type} {t e : TypeId} (size bytes : Nat) (cells : α → List Value) (hd : α → Prop) (ht : P.underlying t = some (.slice e)) (hs : P.cellsOf e = size) (hpos : 0 < size) (hby : P.bytesOf e = bytes) {fuel : Nat}
    (rd : ∀ n cs y, n < fuel → DataW.trod enc P W base spare held n e cs = some y → Fit P e y.1 → ∃ a, cs = cells a ∧ hd a)
    {cs : List Value} {y : DataW H × List MemPlace} (h : DataW.trod enc P W base spare held fuel t cs = some y) (hf : Fit P t y.1) :
    ∃ (A : Option Addr) (c : Nat) (xs : List α), cs = [.slice A xs.length c] ∧ RowAt W (fun b => b < W.heap.size) size cells hd A xs ∧ xs.length * bytes ≤ reachBytes := by
  rcases DataW.trod_slice ht h with ⟨rfl, rfl⟩ | ⟨a, len, cap, elems, rest, n, hfu, rfl, rfl, hb, hl, hc, hel, hi, _⟩
  · exact ⟨none, 0, [], rfl, fun h => absurd rfl h, by simp⟩
  · have hfit : ∀ i (h : i < elems.length), Fit P e elems[i].1 := fun i h m hm => hf m (by
      simp only [DataW.weights, ht, List.mem_cons, List.mem_append]
      exact .inr (.inl (weightsAll_mem (List.mem_map.2 ⟨elems[i], List.getElem_mem h, rfl⟩) m hm)))
    have hrow : ∀ i, i < len → ∃ x : α, (∀ j, j < size → W.cell? ((a.add (i * size)).add j) = (cells x)[j]?) ∧ hd x ∧ (cells x).length = size := fun i hlt => by
      have h1 := hi i hlt
      have hlt' : i < elems.length := by omega
      rw [List.getElem?_eq_getElem hlt', Option.bind_eq_some_iff] at h1
      obtain ⟨cs, hcs, htr⟩ := h1
      obtain ⟨x, rfl, hx⟩ := rd n cs _ (by omega) htr (hfit i hlt')
      obtain ⟨_, hcl, hat⟩ := World.cells?_some hcs
      rw [hs] at hcl hat
      exact ⟨x, hat, hx, hcl⟩
    obtain ⟨xs, hxl, hx⟩ := pick_list _ len hrow
    refine ⟨some a, cap, xs, by rw [hxl], fun hne => ?_, ?_⟩
    · have hp : 0 < xs.length := List.length_pos_iff.2 hne
      obtain ⟨b, off, spot⟩ := a
      have h0 : W.cell? ((Addr.add ⟨b, off, spot⟩ (0 * size)).add 0) = (cells xs[0])[0]? := (hx 0 _ (List.getElem?_eq_getElem hp)).1 0 hpos
      have hl0 := (hx 0 _ (List.getElem?_eq_getElem hp)).2.2
      rw [List.getElem?_eq_getElem (by omega)] at h0
      have hspot : spot = none := by simpa [Addr.add] using World.cell?_spot h0
      subst hspot
      have hblk := World.block_lt_of_cell? _ _ h0
      rw [addr_plus, addr_plus] at hblk
      refine ⟨b, off, rfl, hblk, fun i x hi => ⟨fun j hj => ?_, (hx i x hi).2.1⟩⟩
      have := (hx i x hi).1 j hj
      rwa [addr_plus, addr_plus] at this
    · have := hf ((elems.length + rest.length) * P.bytesOf e) (by simp [DataW.weights, ht])
      rw [hby] at this
      have h2 : xs.length * bytes ≤ (elems.length + rest.length) * bytes := Nat.mul_le_mul_right _ (by omega)
      omega
theorem rd_struct_lt {t : TypeId} {fs : Array Field} (ht : P.underlying t = some (.struct fs)) {n : Nat} {cs : List Value} {y : DataW H × List MemPlace} (h : DataW.trod enc P W base spare held n t cs = some y) (hf : Fit P t y.1) :
    cs.length = P.cellsOf t ∧ ∀ (i : Nat) (ft : TypeId) (off k : Nat), (fs[i]?.map fun f => (f.type, f.offset)) = some (ft, off) → P.cellsOf ft = k → ∃ m z, m < n ∧ DataW.trod enc P W base spare held m ft ((cs.drop off).take k) = some z ∧ Fit P ft z.1 := by
  obtain ⟨xs, m, hfu, rfl, hl, hxl, hx⟩ := DataW.trod_struct ht h
  refine ⟨hl, fun i ft off k hi hk => ?_⟩
  subst hk
  rw [Option.map_eq_some_iff] at hi
  obtain ⟨f, hi, e⟩ := hi
  injection e with e1 e2
  subst e1 e2
  have hlt : i < fs.size := (Array.getElem?_eq_some_iff.1 hi).1
  have h1 := hx i f hi
  rw [List.getElem?_eq_getElem (by omega)] at h1
  refine ⟨m, _, by omega, h1, fun k hk => hf k ?_⟩
  simp only [DataW.weights, ht]
  refine DataW.weights_mem_each (j := i) (t := f.type) (d := xs[i].1) ?_ ?_ k hk
  · rw [List.getElem?_map, Array.getElem?_toList, hi]; rfl
  · rw [List.getElem?_map, List.getElem?_eq_getElem (by omega)]; rfl
/-- the row that a reader gives -/
theorem row_of {α : Type} {size : Nat} {cells : α → List Value} {hd : α → Prop} {A : Option Addr} {xs : List α} (h : RowAt W (fun b => b < W.heap.size) size cells hd A xs) : Row W (Lo W.heap.size) size cells A xs ∧ ∀ x ∈ xs, hd x := by
  refine ⟨fun hne => ?_, fun x hx => ?_⟩
  · obtain ⟨b, off, e, hb, hc⟩ := h hne
    exact ⟨b, off, e, hb, fun i x hi j hj => (hc i x hi).1 j hj⟩
  · obtain ⟨i, hi⟩ := List.getElem?_of_mem hx
    obtain ⟨b, off, _, _, hc⟩ := h (fun e => by subst e; simp at hx)
    exact (hc i x hi).2
end

theorem cellsInt1 : Tryz.prog.cellsOf 3 = 1 := by kernel_rfl
theorem cellsStr1 : Tryz.prog.cellsOf 9 = 1 := by kernel_rfl
theorem cellsNds1 : Tryz.prog.cellsOf 30 = 1 := by kernel_rfl
theorem cellsNd1 : Tryz.prog.cellsOf 32 = 9 := by kernel_rfl
theorem cellsChs1 : Tryz.prog.cellsOf 58 = 1 := by kernel_rfl
theorem cellsChg1 : Tryz.prog.cellsOf 97 = 2 := by kernel_rfl
theorem cellsSgs1 : Tryz.prog.cellsOf 26 = 1 := by kernel_rfl
theorem cellsSgn1 : Tryz.prog.cellsOf 60 = 3 := by kernel_rfl
theorem cellsGps1 : Tryz.prog.cellsOf 27 = 1 := by kernel_rfl
theorem cellsGp1 : Tryz.prog.cellsOf 137 = 2 := by kernel_rfl
theorem cellsWv1 : Tryz.prog.cellsOf 29 = 3 := by kernel_rfl

section
variable {H : Type} {enc : TypeId × Value → H} {W : World} {base : Nat} {spare : Nat → Bool} {held : Bool}

def TreeIn (W : World) (n : Nd) : Prop := TreesAt W (Lo W.heap.size) n.KA n.kids ∧ okF n
theorem rd_node_of {fuel : Nat} (ih : ∀ m, m < fuel → ∀ {cs : List Value} {y : DataW H × List MemPlace}, DataW.trod enc Tryz.prog W base spare held m 30 cs = some y → Fit Tryz.prog 30 y.1 →
    ∃ A c l, cs = [.slice A (List.length l) c] ∧ TreesAt W (Lo W.heap.size) A l ∧ ∀ n ∈ l, okF n) {n : Nat} (hn : n ≤ fuel) {cs : List Value} {y : DataW H × List MemPlace} (h : DataW.trod enc Tryz.prog W base spare held n 32 cs = some y) (hf : Fit Tryz.prog 32 y.1) :
    ∃ a : Nd, cs = cNd a ∧ TreeIn W a := by
  obtain ⟨hl, hx⟩ := rd_struct_lt Tryz.underlying32 h hf
  rw [cellsNd1] at hl
  match cs, hl with
  | [c0, c1, c2, c3, c4, c5, c6, c7, c8], _ =>
    obtain ⟨_, _, _, h0, _⟩ := hx 0 3 0 1 rfl cellsInt1
    obtain ⟨_, _, _, h1, _⟩ := hx 1 3 1 1 rfl cellsInt1
    obtain ⟨_, _, _, h2, _⟩ := hx 2 9 2 1 rfl cellsStr1
    obtain ⟨_, _, _, h3, _⟩ := hx 3 9 3 1 rfl cellsStr1
    obtain ⟨_, _, _, h4, _⟩ := hx 4 3 4 1 rfl cellsInt1
    obtain ⟨_, _, _, h5, _⟩ := hx 5 3 5 1 rfl cellsInt1
    obtain ⟨_, _, _, h6, _⟩ := hx 6 3 6 1 rfl cellsInt1
    obtain ⟨_, _, _, h7, _⟩ := hx 7 3 7 1 rfl cellsInt1
    obtain ⟨m, _, hm, h8, f8⟩ := hx 8 30 8 1 rfl cellsNds1
    simp only [List.drop_zero, List.drop_succ_cons, List.take_succ_cons, List.take_zero] at h0 h1 h2 h3 h4 h5 h6 h7 h8
    obtain ⟨a0, e0, i0⟩ := rd_int Tryz.underlying3 h0
    obtain ⟨a1, e1, _⟩ := rd_int Tryz.underlying3 h1
    obtain ⟨a2, e2, _⟩ := rd_string Tryz.underlying9 h2
    obtain ⟨a3, e3, _⟩ := rd_string Tryz.underlying9 h3
    obtain ⟨a4, e4, i4⟩ := rd_int Tryz.underlying3 h4
    obtain ⟨a5, e5, i5⟩ := rd_int Tryz.underlying3 h5
    obtain ⟨a6, e6, i6⟩ := rd_int Tryz.underlying3 h6
    obtain ⟨a7, e7, i7⟩ := rd_int Tryz.underlying3 h7
    obtain ⟨K, kc, kl, e8, hk, hok⟩ := ih m (by omega) h8 f8
    simp only [List.cons.injEq, and_true] at e0 e1 e2 e3 e4 e5 e6 e7 e8
    subst e0 e1 e2 e3 e4 e5 e6 e7 e8
    exact ⟨.mk a0 a1 a2 a3 a4 a5 a6 a7 K kc kl, rfl, hk, (okF_eq _).2 ⟨⟨i0, i4, i5, i6, i7⟩, hok⟩⟩
set_option maxRecDepth 100000 in
theorem rd_trees : ∀ (fuel : Nat) {cs : List Value} {y : DataW H × List MemPlace}, DataW.trod enc Tryz.prog W base spare held fuel 30 cs = some y → Fit Tryz.prog 30 y.1 →
    ∃ A c l, cs = [.slice A (List.length l) c] ∧ TreesAt W (Lo W.heap.size) A l ∧ ∀ n ∈ l, okF n := by
  intro fuel
  induction fuel using Nat.strongRecOn with
  | ind fuel ih =>
  intro cs y h hf
  obtain ⟨A, c, l, rfl, hr, hw⟩ := rd_slice_lt 9 104 cNd (TreeIn W) Tryz.underlying30 cellsNd1 (by decide) (by kernel_rfl) (fun n cs y hn h hf => rd_node_of (fuel := n) (fun m hm => ih m (by omega)) (Nat.le_refl _) h hf) h hf
  obtain ⟨h1, h2⟩ := row_of hr
  exact ⟨A, c, l, rfl, .mk A l (by have : reachBytes < 2 ^ 47 := reachBytes_lt; omega) h1 fun n hn => (h2 n hn).1, fun n hn => (h2 n hn).2⟩
theorem rd_node {fuel : Nat} {cs : List Value} {y : DataW H × List MemPlace} (h : DataW.trod enc Tryz.prog W base spare held fuel 32 cs = some y) (hf : Fit Tryz.prog 32 y.1) : ∃ a : Nd, cs = cNd a ∧ TreeIn W a :=
  rd_node_of (fuel := fuel) (fun m _ => rd_trees m) (Nat.le_refl _) h hf

def ChsIn (W : World) (s : Sgn) : Prop := Row W (Lo W.heap.size) 2 cChg s.CA s.chs ∧ ∀ c ∈ s.chs, c.val.size ≤ 9223372036854775807
theorem rd_chs {fuel : Nat} {cs : List Value} {y : DataW H × List MemPlace} (h : DataW.trod enc Tryz.prog W base spare held fuel 58 cs = some y) (hf : Fit Tryz.prog 58 y.1) :
    ∃ A c l, cs = [.slice A (List.length l) c] ∧ Row W (Lo W.heap.size) 2 cChg A l ∧ ∀ x ∈ l, x.val.size ≤ 9223372036854775807 := by
  obtain ⟨A, c, l, rfl, hr, hw⟩ := rd_slice 2 24 cChg (fun x => x.val.size ≤ 9223372036854775807) Tryz.underlying58 cellsChg1 (by decide) (by kernel_rfl) (fun n cs y h hf => by
    obtain ⟨hl, hx⟩ := rd_struct Tryz.underlying97 h hf
    rw [cellsChg1] at hl
    match cs, hl with
    | [c0, c1], _ =>
      obtain ⟨_, _, h0, _⟩ := hx 0 3 0 1 rfl cellsInt1
      obtain ⟨_, _, h1, _⟩ := hx 1 9 1 1 rfl cellsStr1
      simp only [List.drop_zero, List.drop_succ_cons, List.take_succ_cons, List.take_zero] at h0 h1
      obtain ⟨a0, e0, _⟩ := rd_int Tryz.underlying3 h0
      obtain ⟨a1, e1, i1⟩ := rd_string Tryz.underlying9 h1
      simp only [List.cons.injEq, and_true] at e0 e1
      subst e0 e1
      exact ⟨⟨a0, a1⟩, rfl, by have : maxLen = 9223372036854775807 := rfl; dsimp only; omega⟩) h hf
  obtain ⟨h1, h2⟩ := row_of hr
  exact ⟨A, c, l, rfl, h1, h2⟩
theorem rd_sgs {fuel : Nat} {cs : List Value} {y : DataW H × List MemPlace} (h : DataW.trod enc Tryz.prog W base spare held fuel 26 cs = some y) (hf : Fit Tryz.prog 26 y.1) :
    ∃ A c l, cs = [.slice A (List.length l) c] ∧ SigsAt W (Lo W.heap.size) A l ∧ ∀ s ∈ l, ∀ x ∈ s.chs, x.val.size ≤ 9223372036854775807 := by
  obtain ⟨A, c, l, rfl, hr, hw⟩ := rd_slice 3 40 cSgn (ChsIn W) Tryz.underlying26 cellsSgn1 (by decide) (by kernel_rfl) (fun n cs y h hf => by
    obtain ⟨hl, hx⟩ := rd_struct Tryz.underlying60 h hf
    rw [cellsSgn1] at hl
    match cs, hl with
    | [c0, c1, c2], _ =>
      obtain ⟨_, _, h0, _⟩ := hx 0 3 0 1 rfl cellsInt1
      obtain ⟨_, _, h1, _⟩ := hx 1 3 1 1 rfl cellsInt1
      obtain ⟨_, _, h2, f2⟩ := hx 2 58 2 1 rfl cellsChs1
      simp only [List.drop_zero, List.drop_succ_cons, List.take_succ_cons, List.take_zero] at h0 h1 h2
      obtain ⟨a0, e0, _⟩ := rd_int Tryz.underlying3 h0
      obtain ⟨a1, e1, _⟩ := rd_int Tryz.underlying3 h1
      obtain ⟨CA, cc, chs, e2, r2, i2⟩ := rd_chs h2 f2
      simp only [List.cons.injEq, and_true] at e0 e1 e2
      subst e0 e1 e2
      exact ⟨⟨a0, a1, CA, cc, chs⟩, rfl, r2, i2⟩) h hf
  obtain ⟨h1, h2⟩ := row_of hr
  exact ⟨A, c, l, rfl, ⟨h1, fun s hs => (h2 s hs).1⟩, fun s hs => (h2 s hs).2⟩
theorem rd_gps {fuel : Nat} {cs : List Value} {y : DataW H × List MemPlace} (h : DataW.trod enc Tryz.prog W base spare held fuel 27 cs = some y) (hf : Fit Tryz.prog 27 y.1) :
    ∃ A c l, cs = [.slice A (List.length l) c] ∧ Row W (Lo W.heap.size) 2 cGp A l := by
  obtain ⟨A, c, l, rfl, hr, hw⟩ := rd_slice 2 16 cGp (fun _ => True) Tryz.underlying27 cellsGp1 (by decide) (by kernel_rfl) (fun n cs y h hf => by
    obtain ⟨hl, hx⟩ := rd_struct Tryz.underlying137 h hf
    rw [cellsGp1] at hl
    match cs, hl with
    | [c0, c1], _ =>
      obtain ⟨_, _, h0, _⟩ := hx 0 3 0 1 rfl cellsInt1
      obtain ⟨_, _, h1, _⟩ := hx 1 3 1 1 rfl cellsInt1
      simp only [List.drop_zero, List.drop_succ_cons, List.take_succ_cons, List.take_zero] at h0 h1
      obtain ⟨a0, e0, _⟩ := rd_int Tryz.underlying3 h0
      obtain ⟨a1, e1, _⟩ := rd_int Tryz.underlying3 h1
      simp only [List.cons.injEq, and_true] at e0 e1
      subst e0 e1
      exact ⟨(a0, a1), rfl, trivial⟩) h hf
  exact ⟨A, c, l, rfl, (row_of hr).1⟩
/-- a wave that was read -/
def WaveIn (W : World) (v : Wv) : Prop := SigsAt W (Lo W.heap.size) v.A v.sigs ∧ (∀ s ∈ v.sigs, ∀ x ∈ s.chs, x.val.size ≤ 9223372036854775807) ∧ ∃ gs : List (Int × Int), v.gn = gs.length ∧ Row W (Lo W.heap.size) 2 cGp v.G gs
theorem rd_wave {fuel : Nat} {cs : List Value} {y : DataW H × List MemPlace} (h : DataW.trod enc Tryz.prog W base spare held fuel 29 cs = some y) (hf : Fit Tryz.prog 29 y.1) : ∃ v : Wv, cs = cWv v ∧ WaveIn W v := by
  obtain ⟨hl, hx⟩ := rd_struct Tryz.underlying29 h hf
  rw [cellsWv1] at hl
  match cs, hl with
  | [c0, c1, c2], _ =>
    obtain ⟨_, _, h0, f0⟩ := hx 0 26 0 1 rfl cellsSgs1
    obtain ⟨_, _, h1, f1⟩ := hx 1 27 1 1 rfl cellsGps1
    obtain ⟨_, _, h2, _⟩ := hx 2 3 2 1 rfl cellsInt1
    simp only [List.drop_zero, List.drop_succ_cons, List.take_succ_cons, List.take_zero] at h0 h1 h2
    obtain ⟨A, cA, sigs, e0, r0, i0⟩ := rd_sgs h0 f0
    obtain ⟨G, cG, gs, e1, r1⟩ := rd_gps h1 f1
    obtain ⟨fin, e2, _⟩ := rd_int Tryz.underlying3 h2
    simp only [List.cons.injEq, and_true] at e0 e1 e2
    subst e0 e1 e2
    exact ⟨⟨A, cA, sigs, G, gs.length, cG, fin⟩, rfl, r0, i0, gs, rfl, r1⟩
end

end Go.Proofs.YtdlebcijgdkfjaaGreatDoor
