/-
  Several texts in one: QType, CTru, Reads51, OfM, RTypeD. Each says at its head what it holds.
-/
import Derived.Test.YtbhcmnfeeogdhaaGreatDoorES13
import Derived.Test.YtbhcmnfeeogdhaaGreatDoorES2
import Derived.Test.YtbhcmnfeeogdhaaGreatDoorES7
import Derived.Test.YtbhcmnfeeogdhaaGreatDoorES12
import Derived.Deep.RegionHeld3
import Derived.Test.YtbhcmnfeeogdhaaGreatDoorES11
import Derived.Test.YtbhcmnfeeogdhaaGreatDoorES10
import Derived.Outline
import Derived.Deep.QuietTactic
import Derived.BigQuiet

/-
  qcheck.Type: the kind and the width of a resolved value.
-/
namespace Go.Proofs.YtbhcmnfeeogdhaaGreatDoor
open Go.RowKit

set_option maxRecDepth 100000 in
set_option maxHeartbeats 4000000 in
theorem type_op (n : Nd) (hkk : ¬ (n.kind = 1 ∨ n.kind = 2 ∨ n.kind = 4 ∨ n.kind = 5)) (ih : ∀ k ∈ n.kids, TypeC k) : TypeC n := by
  intro w ht
  have HKK := hide hkk
  have IH := hide ih
  clear ih hkk
  obtain ⟨kind, at_, name, value, a, b, c, d, KA, kc, kids⟩ := n
  unfold Nd.KA Nd.kids at ht
  unfold cNd
  have hl := ht.len
  obtain ⟨W0, hW0⟩ : ∃ W0, w.alloc (.cells #[.int .i64 kind, .int .i64 at_, .string name, .string value, .int .i64 a, .int .i64 b, .int .i64 c, .int .i64 d, .slice KA kids.length kc] 30) = W0 := ⟨_, rfl⟩
  have g0 := new_at hW0
  have hb0 : Below w.heap.size w W0 := by rw [← hW0]; exact (Below.refl _ _).alloc (Nat.le_refl _) _
  have HT := hide (ht.grow hb0)
  have HG0 := hide g0
  have HB0 := hide hb0
  have HW0 := hide hW0
  obtain ⟨y0, y1, y2, y3, y4, y5, y6, y7, y8⟩ := box9 g0
  clear ht g0 hb0 hW0
  try dsimp only [Nd.kind, Nd.value, Nd.a, Nd.b, Nd.c, Nd.d, Nd.kids]
  have HQ := hide (show ∀ (o : Option (Int × Int)) (wr : World), typeF (.mk kind at_ name value a b c d KA kc kids) = o → Below W0.heap.size W0 wr → RetV (typV (typeF (.mk kind at_ name value a b c d KA kc kids))) w (.returned (typV o)) wr from fun o wr h hb => ⟨by rw [h], bstep HB0.out hb⟩)
  have HEQ := hide (typeF_mk kind at_ name value a b c d KA kc kids)
  go_enter Tryz.func21, Tryz.ntmps21
  go_upto_region 1 with (fail)
  rw [HW0.out]
  have hkk := HKK.out
  dsimp only [Nd.kind] at hkk
  have k1 : ¬ kind = 1 := fun h => hkk (.inl h)
  have k2 : ¬ kind = 2 := fun h => hkk (.inr (.inl h))
  have k4 : ¬ kind = 4 := fun h => hkk (.inr (.inr (.inl h)))
  have k5 : ¬ kind = 5 := fun h => hkk (.inr (.inr (.inr h)))
  clear hkk HKK
  rw [if_neg k1, if_neg k2, if_neg k4, if_neg k5] at HEQ
  have T1 : (kind == 1) = false := beq_eq_false_iff_ne.2 k1
  have T2 : (kind == 2) = false := beq_eq_false_iff_ne.2 k2
  have T4 : (kind == 4) = false := beq_eq_false_iff_ne.2 k4
  have T5 : (kind == 5) = false := beq_eq_false_iff_ne.2 k5
  clear k1 k2 k4 k5
  have HWD := hide (widths_any KA kc kids W0 HT.out IH.out)
  go_upto_region 7 with (go_at_call 44; refine HWD.out.mono ?_; rintro e w2 ⟨A2, c2, ws, ok, rfl, hb2, hi2, hok1, hok2⟩; have HB2 := hide hb2; have HI2 := hide hi2; have HK1 := hide hok1; have HK2 := hide hok2; clear hb2 hi2 hok1 hok2)
  clear y0 y1 y2 y3 y4 y5 y6 y7 y8
  cases ok with
  | false =>
    have HR := hide (HQ.out none w2 (by rw [HEQ.out, HK2.out rfl]) HB2.out)
    clear HQ HEQ
    go_wp2_with fail
    go_ret3
    exact HR.out
  | true =>
    have hws := HK1.out rfl
    obtain ⟨hw1, hw2⟩ := ws_of hws
    have HWS := hide hws
    have HW1 := hide hw1
    have HW2 := hide hw2
    clear hws hw1 hw2
    rw [HWS.out] at HEQ
    dsimp only at HEQ
    obtain ⟨y0, y1, y2, y3, y4, y5, y6, y7, y8⟩ := box9 ((HB2.out.block _ (box_lt HG0.out)).trans HG0.out)
    have hisv := isValue_any (.mk kind at_ name value a b c d KA kc kids) w2 (HT.out.grow HB2.out)
    unfold cNd at hisv
    have HISV := hide hisv
    clear hisv
    dsimp only [Nd.kind] at HISV
    by_cases hv : 1 ≤ kind ∧ kind ≤ 16
    · rw [show isValB kind = true from decide_eq_true hv] at HISV
      rw [if_pos hv] at HEQ
      clear hv
      go_upto_region 8 with (go_at_call 45; refine HISV.out.mono ?_; rintro e w3 ⟨rfl, hb3⟩; have HB3 := hide hb3; clear hb3)
      clear y0 y1 y2 y3 y4 y5 y6 y7 y8
      have HB23 := hide (bstep HB2.out HB3.out)
      obtain ⟨y0, y1, y2, y3, y4, y5, y6, y7, y8⟩ := box9 ((HB23.out.block _ (box_lt HG0.out)).trans HG0.out)
      have hop := operator_any (.mk kind at_ name value a b c d KA kc kids) A2 c2 ws w3 (HT.out.grow HB23.out) ⟨HI2.out.step HB3.out, by rw [HW2.out]; omega, HW1.out⟩
      unfold cNd at hop
      have HOP := hide hop
      clear hop
      dsimp only [Nd.kind, Nd.a, Nd.b] at HOP
      go_upto_region 21 with (go_at_call 46; refine HOP.out.mono ?_; rintro e w4 ⟨rfl, hb4⟩; have HB4 := hide hb4; clear hb4)
      clear y0 y1 y2 y3 y4 y5 y6 y7 y8
      by_cases h1 : 1 ≤ operF kind a b ws
      · have T9 : decide (operF kind a b ws < 1) = false := decide_eq_false (by omega)
        have HR := hide (HQ.out (some (0, operF kind a b ws)) w4 (by rw [HEQ.out]; unfold widthOk; rw [if_pos h1]) (bstep HB23.out HB4.out))
        clear HQ HEQ h1
        go_wp2_with fail
        go_ret3
        exact HR.out
      · have T9 : decide (operF kind a b ws < 1) = true := decide_eq_true (by omega)
        have HR := hide (HQ.out none w4 (by rw [HEQ.out]; unfold widthOk; rw [if_neg h1]) (bstep HB23.out HB4.out))
        clear HQ HEQ h1
        go_wp2_with fail
        go_ret3
        exact HR.out
    · rw [show isValB kind = false from decide_eq_false hv] at HISV
      rw [if_neg hv] at HEQ
      clear hv
      have HQ2 := hide (fun wr hb => HQ.out none wr HEQ.out hb)
      clear HQ HEQ
      go_wp2_with (go_at_call 45; refine HISV.out.mono ?_; rintro e w3 ⟨rfl, hb3⟩; have HB3 := hide hb3; clear hb3)
      go_ret3
      exact HQ2.out _ (bstep HB2.out HB3.out)

theorem type_any (n : Nd) : TypeC n := by
  induction n using Nd.ind with
  | h n ih =>
  by_cases hk : n.kind = 1 ∨ n.kind = 2 ∨ n.kind = 4 ∨ n.kind = 5
  · exact type_leaf n hk
  · exact type_op n hk ih

end Go.Proofs.YtbhcmnfeeogdhaaGreatDoor

/-
  condition.truth: the result of a condition for the values of its signals. Printed by wip/genctru.py.
-/
namespace Go.Proofs.YtbhcmnfeeogdhaaGreatDoor
open Go.RowKit

theorem kids_le {most : Nat} {n : Nd} (h : FewOk most n) : n.kids.length ≤ most := by
  have h1 := ((FewOk_eq most n).1 h).2.2.1
  have h2 := sum_nodes n.kids most fun k hk => ⟨nodes_pos k, (((FewOk_eq most n).1 h).2.2.2 k hk).nodes⟩
  rw [nodesF_eq] at h1
  omega
theorem siz_of {env : Int → ByteArray} (n : Nd) : EnvOk env n → FewOk 60 n → ∀ p, typeF n = some p → Siz env n := by
  induction n using Nd.ind with
  | h n ih =>
  intro he hf p hp
  have hkl := kids_le hf
  obtain ⟨_, _, he3⟩ := (EnvOk_eq env n).1 he
  obtain ⟨_, _, _, hf4⟩ := (FewOk_eq 60 n).1 hf
  rw [typeF_eq] at hp
  unfold typeB at hp
  have leaf : n.kids = [] → Siz env n := fun h => (Siz_eq env n).2 ⟨fun _ _ _ _ => ⟨by omega, fun k hk => by rw [h] at hk; cases hk⟩, fun k hk => by rw [h] at hk; cases hk⟩
  by_cases k1 : n.kind = 1
  · rw [if_pos k1] at hp
    by_cases h : n.kids = []
    · exact leaf h
    · rw [if_pos h] at hp; cases hp
  rw [if_neg k1] at hp
  by_cases k2 : n.kind = 2
  · rw [if_pos k2] at hp
    by_cases h : n.kids = []
    · exact leaf h
    · rw [if_pos h] at hp; cases hp
  rw [if_neg k2] at hp
  by_cases k4 : n.kind = 4
  · rw [if_pos k4] at hp
    by_cases h : n.kids = []
    · exact leaf h
    · rw [if_pos h] at hp; cases hp
  rw [if_neg k4] at hp
  by_cases k5 : n.kind = 5
  · rw [if_pos k5] at hp
    by_cases h : n.kids = []
    · exact leaf h
    · rw [if_pos h] at hp; cases hp
  rw [if_neg k5] at hp
  cases hws : widthsF (n.kids.map typeF) with
  | none => rw [hws] at hp; cases hp
  | some ws =>
    obtain ⟨hl, hat⟩ := widthsF_at hws
    have key : ∀ k ∈ n.kids, ∃ u, typeF k = some (0, u) := fun k hk => by
      obtain ⟨i, hi⟩ := List.getElem?_of_mem hk
      have hlt : i < ws.length := by rw [hl, List.length_map]; exact (List.getElem?_eq_some_iff.1 hi).1
      have := hat i ws[i] (List.getElem?_eq_getElem hlt)
      rw [List.getElem?_map, hi] at this
      exact ⟨_, by injection this⟩
    refine (Siz_eq env n).2 ⟨fun _ _ _ _ => ⟨by omega, fun k hk => ?_⟩, fun k hk => ?_⟩
    · obtain ⟨u, hu⟩ := key k hk
      exact (val_size k (he3 k hk) 0 u hu).1
    · obtain ⟨u, hu⟩ := key k hk
      exact ih k hk (he3 k hk) (hf4 k hk) _ hu
theorem typedK_some {l : List Nd} {k : Int} (h : typedK l = some k) : ∃ u, ∀ x ∈ l, typeF x = some (k, u) := by
  cases l with
  | nil => cases h
  | cons x r =>
    unfold typedK at h
    dsimp only at h
    cases hx : typeF x with
    | none => rw [hx] at h; cases h
    | some p =>
      rw [hx] at h
      dsimp only at h
      split at h
      · rename_i hall
        injection h with h
        subst h
        exact ⟨p.2, fun y hy => by rcases List.mem_cons.1 hy with rfl | hy; exact hx; exact hall y hy⟩
      · cases h
theorem chain2 (w1 : World) (a b : Obj) {V : World} (hV : (w1.alloc a).alloc b = V) : V.heap[w1.heap.size]? = some a ∧ V.heap[w1.heap.size + 1]? = some b ∧ Below w1.heap.size w1 V := by
  subst hV
  have s1 : (w1.alloc a).heap.size = w1.heap.size + 1 := World.size_alloc _ _
  have n0 := heap_alloc_new w1 a
  have n1 := heap_alloc_new (w1.alloc a) b
  rw [s1] at n1
  exact ⟨box_alloc n0, n1, ((Below.refl _ _).alloc (Nat.le_refl _) _).alloc (by omega) _⟩
/-- a value of a typed tree, called -/
theorem cval_of {env : Int → ByteArray} {n : Nd} {p : Int × Int} (hp : typeF n = some p) (w : World) (Bm q : Nat) (ht : TreesAt w (Lo w.heap.size) n.KA n.kids) (hm : MapS w Bm q env) (hok : okF n) (he : EnvOk env n) (hf : FewOk 60 n) :
    Calls Tryz.prog 51 #[.agg (cNd n).toArray, .map (some Bm)] w (RetV (.string (valF env n)) w) := cval_any env n w Bm q ht hm hok (siz_of n he hf p hp)

end Go.Proofs.YtbhcmnfeeogdhaaGreatDoor

/-
  Waves and trees of nodes, read out of the arguments.
-/
namespace Go.Proofs.YtbhcmnfeeogdhaaGreatDoor
open Go.ChangeShapes Go.WideShapes Go.ChangeAt Go.RowKit Go.Deep

section
variable {H : Type} {enc : TypeId × Value → H} {P : Program} {W : World} {base : Nat} {spare : Nat → Bool} {held : Bool}
theorem rd_slice_lt {α : Type} {t e : TypeId} (size bytes : Nat) (cells : α → List Value) (hd : α → Prop) (ht : P.underlying t = some (.slice e)) (hs : P.cellsOf e = size) (hpos : 0 < size) (hby : P.bytesOf e = bytes) {fuel : Nat}
    (rd : ∀ n cs y, n < fuel → DataW.trod enc P W base spare held n e cs = some y → Fit P e y.1 → ∃ a, cs = cells a ∧ hd a)
    {cs : List Value} {y : DataW H × List MemPlace} (h : DataW.trod enc P W base spare held fuel t cs = some y) (hf : Fit P t y.1) :
    ∃ (A : Option Addr) (c : Nat) (xs : List α), cs = [.slice A xs.length c] ∧ RowAt W (fun b => b < W.heap.size) size cells hd A xs ∧ xs.length * bytes ≤ reachBytes := by
  rcases DataW.trod_slice ht h with ⟨rfl, rfl⟩ | ⟨a, len, cap, elems, rest, n, hfu, rfl, rfl, hb, hl, hc, hel, hi, _⟩
  · exact ⟨none, 0, [], rfl, fun h => absurd rfl h, by simp⟩
  · have hfit : ∀ i (h : i < elems.length), Fit P e elems[i].1 := fun i h m hm => hf m (by
      simp only [DataW.weights, ht, List.mem_cons, List.mem_append]
      exact .inr (.inl (weightsAll_mem (List.mem_map.2 ⟨elems[i], List.getElem_mem h, rfl⟩) m hm)))
    have hrow : ∀ i, i < len → ∃ x : α, (∀ j, j < size → W.cell? ((a.add (i * size)).add j) = (cells x)[j]?) ∧ hd x ∧ (cells x).length = size := fun i hlt => by
      have h1 := hi i hlt
      have hlt' : i < elems.length := by omega
      rw [List.getElem?_eq_getElem hlt', Option.bind_eq_some_iff] at h1
      obtain ⟨cs, hcs, htr⟩ := h1
      obtain ⟨x, rfl, hx⟩ := rd n cs _ (by omega) htr (hfit i hlt')
      obtain ⟨_, hcl, hat⟩ := World.cells?_some hcs
      rw [hs] at hcl hat
      exact ⟨x, hat, hx, hcl⟩
    obtain ⟨xs, hxl, hx⟩ := pick_list _ len hrow
    refine ⟨some a, cap, xs, by rw [hxl], fun hne => ?_, ?_⟩
    · have hp : 0 < xs.length := List.length_pos_iff.2 hne
      obtain ⟨b, off, spot⟩ := a
      have h0 : W.cell? ((Addr.add ⟨b, off, spot⟩ (0 * size)).add 0) = (cells xs[0])[0]? := (hx 0 _ (List.getElem?_eq_getElem hp)).1 0 hpos
      have hl0 := (hx 0 _ (List.getElem?_eq_getElem hp)).2.2
      rw [List.getElem?_eq_getElem (by omega)] at h0
      have hspot : spot = none := by simpa [Addr.add] using World.cell?_spot h0
      subst hspot
      have hblk := World.block_lt_of_cell? _ _ h0
      rw [addr_plus, addr_plus] at hblk
      refine ⟨b, off, rfl, hblk, fun i x hi => ⟨fun j hj => ?_, (hx i x hi).2.1⟩⟩
      have := (hx i x hi).1 j hj
      rwa [addr_plus, addr_plus] at this
    · have := hf ((elems.length + rest.length) * P.bytesOf e) (by simp [DataW.weights, ht])
      rw [hby] at this
      have h2 : xs.length * bytes ≤ (elems.length + rest.length) * bytes := Nat.mul_le_mul_right _ (by omega)
      omega
theorem rd_struct_lt {t : TypeId} {fs : Array Field} (ht : P.underlying t = some (.struct fs)) {n : Nat} {cs : List Value} {y : DataW H × List MemPlace} (h : DataW.trod enc P W base spare held n t cs = some y) (hf : Fit P t y.1) :
    cs.length = P.cellsOf t ∧ ∀ (i : Nat) (ft : TypeId) (off k : Nat), (fs[i]?.map fun f => (f.type, f.offset)) = some (ft, off) → P.cellsOf ft = k → ∃ m z, m < n ∧ DataW.trod enc P W base spare held m ft ((cs.drop off).take k) = some z ∧ Fit P ft z.1 := by
  obtain ⟨xs, m, hfu, rfl, hl, hxl, hx⟩ := DataW.trod_struct ht h
  refine ⟨hl, fun i ft off k hi hk => ?_⟩
  subst hk
  rw [Option.map_eq_some_iff] at hi
  obtain ⟨f, hi, e⟩ := hi
  injection e with e1 e2
  subst e1 e2
  have hlt : i < fs.size := (Array.getElem?_eq_some_iff.1 hi).1
  have h1 := hx i f hi
  rw [List.getElem?_eq_getElem (by omega)] at h1
  refine ⟨m, _, by omega, h1, fun k hk => hf k ?_⟩
  simp only [DataW.weights, ht]
  refine DataW.weights_mem_each (j := i) (t := f.type) (d := xs[i].1) ?_ ?_ k hk
  · rw [List.getElem?_map, Array.getElem?_toList, hi]; rfl
  · rw [List.getElem?_map, List.getElem?_eq_getElem (by omega)]; rfl
/-- the row that a reader gives -/
theorem row_of {α : Type} {size : Nat} {cells : α → List Value} {hd : α → Prop} {A : Option Addr} {xs : List α} (h : RowAt W (fun b => b < W.heap.size) size cells hd A xs) : Row W (Lo W.heap.size) size cells A xs ∧ ∀ x ∈ xs, hd x := by
  refine ⟨fun hne => ?_, fun x hx => ?_⟩
  · obtain ⟨b, off, e, hb, hc⟩ := h hne
    exact ⟨b, off, e, hb, fun i x hi j hj => (hc i x hi).1 j hj⟩
  · obtain ⟨i, hi⟩ := List.getElem?_of_mem hx
    obtain ⟨b, off, _, _, hc⟩ := h (fun e => by subst e; simp at hx)
    exact (hc i x hi).2
end

theorem cellsInt1 : Tryz.prog.cellsOf 3 = 1 := by kernel_rfl
theorem cellsStr1 : Tryz.prog.cellsOf 9 = 1 := by kernel_rfl
theorem cellsNds1 : Tryz.prog.cellsOf 28 = 1 := by kernel_rfl
theorem cellsNd1 : Tryz.prog.cellsOf 30 = 9 := by kernel_rfl
theorem cellsChs1 : Tryz.prog.cellsOf 68 = 1 := by kernel_rfl
theorem cellsChg1 : Tryz.prog.cellsOf 67 = 2 := by kernel_rfl
theorem cellsSgs1 : Tryz.prog.cellsOf 24 = 1 := by kernel_rfl
theorem cellsSgn1 : Tryz.prog.cellsOf 70 = 3 := by kernel_rfl
theorem cellsGps1 : Tryz.prog.cellsOf 25 = 1 := by kernel_rfl
theorem cellsGp1 : Tryz.prog.cellsOf 114 = 2 := by kernel_rfl
theorem cellsWv1 : Tryz.prog.cellsOf 27 = 3 := by kernel_rfl

section
variable {H : Type} {enc : TypeId × Value → H} {W : World} {base : Nat} {spare : Nat → Bool} {held : Bool}

def TreeIn (W : World) (n : Nd) : Prop := TreesAt W (Lo W.heap.size) n.KA n.kids ∧ okF n
theorem rd_node_of {fuel : Nat} (ih : ∀ m, m < fuel → ∀ {cs : List Value} {y : DataW H × List MemPlace}, DataW.trod enc Tryz.prog W base spare held m 28 cs = some y → Fit Tryz.prog 28 y.1 →
    ∃ A c l, cs = [.slice A (List.length l) c] ∧ TreesAt W (Lo W.heap.size) A l ∧ ∀ n ∈ l, okF n) {n : Nat} (hn : n ≤ fuel) {cs : List Value} {y : DataW H × List MemPlace} (h : DataW.trod enc Tryz.prog W base spare held n 30 cs = some y) (hf : Fit Tryz.prog 30 y.1) :
    ∃ a : Nd, cs = cNd a ∧ TreeIn W a := by
  obtain ⟨hl, hx⟩ := rd_struct_lt Tryz.underlying30 h hf
  rw [cellsNd1] at hl
  match cs, hl with
  | [c0, c1, c2, c3, c4, c5, c6, c7, c8], _ =>
    obtain ⟨_, _, _, h0, _⟩ := hx 0 3 0 1 rfl cellsInt1
    obtain ⟨_, _, _, h1, _⟩ := hx 1 3 1 1 rfl cellsInt1
    obtain ⟨_, _, _, h2, _⟩ := hx 2 9 2 1 rfl cellsStr1
    obtain ⟨_, _, _, h3, _⟩ := hx 3 9 3 1 rfl cellsStr1
    obtain ⟨_, _, _, h4, _⟩ := hx 4 3 4 1 rfl cellsInt1
    obtain ⟨_, _, _, h5, _⟩ := hx 5 3 5 1 rfl cellsInt1
    obtain ⟨_, _, _, h6, _⟩ := hx 6 3 6 1 rfl cellsInt1
    obtain ⟨_, _, _, h7, _⟩ := hx 7 3 7 1 rfl cellsInt1
    obtain ⟨m, _, hm, h8, f8⟩ := hx 8 28 8 1 rfl cellsNds1
    simp only [List.drop_zero, List.drop_succ_cons, List.take_succ_cons, List.take_zero] at h0 h1 h2 h3 h4 h5 h6 h7 h8
    obtain ⟨a0, e0, i0⟩ := rd_int Tryz.underlying3 h0
    obtain ⟨a1, e1, _⟩ := rd_int Tryz.underlying3 h1
    obtain ⟨a2, e2, _⟩ := rd_string Tryz.underlying9 h2
    obtain ⟨a3, e3, _⟩ := rd_string Tryz.underlying9 h3
    obtain ⟨a4, e4, i4⟩ := rd_int Tryz.underlying3 h4
    obtain ⟨a5, e5, i5⟩ := rd_int Tryz.underlying3 h5
    obtain ⟨a6, e6, i6⟩ := rd_int Tryz.underlying3 h6
    obtain ⟨a7, e7, i7⟩ := rd_int Tryz.underlying3 h7
    obtain ⟨K, kc, kl, e8, hk, hok⟩ := ih m (by omega) h8 f8
    simp only [List.cons.injEq, and_true] at e0 e1 e2 e3 e4 e5 e6 e7 e8
    subst e0 e1 e2 e3 e4 e5 e6 e7 e8
    exact ⟨.mk a0 a1 a2 a3 a4 a5 a6 a7 K kc kl, rfl, hk, (okF_eq _).2 ⟨⟨i0, i4, i5, i6, i7⟩, hok⟩⟩
set_option maxRecDepth 100000 in
theorem rd_trees : ∀ (fuel : Nat) {cs : List Value} {y : DataW H × List MemPlace}, DataW.trod enc Tryz.prog W base spare held fuel 28 cs = some y → Fit Tryz.prog 28 y.1 →
    ∃ A c l, cs = [.slice A (List.length l) c] ∧ TreesAt W (Lo W.heap.size) A l ∧ ∀ n ∈ l, okF n := by
  intro fuel
  induction fuel using Nat.strongRecOn with
  | ind fuel ih =>
  intro cs y h hf
  obtain ⟨A, c, l, rfl, hr, hw⟩ := rd_slice_lt 9 104 cNd (TreeIn W) Tryz.underlying28 cellsNd1 (by decide) (by kernel_rfl) (fun n cs y hn h hf => rd_node_of (fuel := n) (fun m hm => ih m (by omega)) (Nat.le_refl _) h hf) h hf
  obtain ⟨h1, h2⟩ := row_of hr
  exact ⟨A, c, l, rfl, .mk A l (by have : reachBytes < 2 ^ 47 := reachBytes_lt; omega) h1 fun n hn => (h2 n hn).1, fun n hn => (h2 n hn).2⟩
theorem rd_node {fuel : Nat} {cs : List Value} {y : DataW H × List MemPlace} (h : DataW.trod enc Tryz.prog W base spare held fuel 30 cs = some y) (hf : Fit Tryz.prog 30 y.1) : ∃ a : Nd, cs = cNd a ∧ TreeIn W a :=
  rd_node_of (fuel := fuel) (fun m _ => rd_trees m) (Nat.le_refl _) h hf

def ChsIn (W : World) (s : Sgn) : Prop := Row W (Lo W.heap.size) 2 cChg s.CA s.chs ∧ ∀ c ∈ s.chs, c.val.size ≤ 9223372036854775807
theorem rd_chs {fuel : Nat} {cs : List Value} {y : DataW H × List MemPlace} (h : DataW.trod enc Tryz.prog W base spare held fuel 68 cs = some y) (hf : Fit Tryz.prog 68 y.1) :
    ∃ A c l, cs = [.slice A (List.length l) c] ∧ Row W (Lo W.heap.size) 2 cChg A l ∧ ∀ x ∈ l, x.val.size ≤ 9223372036854775807 := by
  obtain ⟨A, c, l, rfl, hr, hw⟩ := rd_slice 2 24 cChg (fun x => x.val.size ≤ 9223372036854775807) Tryz.underlying68 cellsChg1 (by decide) (by kernel_rfl) (fun n cs y h hf => by
    obtain ⟨hl, hx⟩ := rd_struct Tryz.underlying67 h hf
    rw [cellsChg1] at hl
    match cs, hl with
    | [c0, c1], _ =>
      obtain ⟨_, _, h0, _⟩ := hx 0 3 0 1 rfl cellsInt1
      obtain ⟨_, _, h1, _⟩ := hx 1 9 1 1 rfl cellsStr1
      simp only [List.drop_zero, List.drop_succ_cons, List.take_succ_cons, List.take_zero] at h0 h1
      obtain ⟨a0, e0, _⟩ := rd_int Tryz.underlying3 h0
      obtain ⟨a1, e1, i1⟩ := rd_string Tryz.underlying9 h1
      simp only [List.cons.injEq, and_true] at e0 e1
      subst e0 e1
      exact ⟨⟨a0, a1⟩, rfl, by have : maxLen = 9223372036854775807 := rfl; dsimp only; omega⟩) h hf
  obtain ⟨h1, h2⟩ := row_of hr
  exact ⟨A, c, l, rfl, h1, h2⟩
theorem rd_sgs {fuel : Nat} {cs : List Value} {y : DataW H × List MemPlace} (h : DataW.trod enc Tryz.prog W base spare held fuel 24 cs = some y) (hf : Fit Tryz.prog 24 y.1) :
    ∃ A c l, cs = [.slice A (List.length l) c] ∧ SigsAt W (Lo W.heap.size) A l ∧ ∀ s ∈ l, ∀ x ∈ s.chs, x.val.size ≤ 9223372036854775807 := by
  obtain ⟨A, c, l, rfl, hr, hw⟩ := rd_slice 3 40 cSgn (ChsIn W) Tryz.underlying24 cellsSgn1 (by decide) (by kernel_rfl) (fun n cs y h hf => by
    obtain ⟨hl, hx⟩ := rd_struct Tryz.underlying70 h hf
    rw [cellsSgn1] at hl
    match cs, hl with
    | [c0, c1, c2], _ =>
      obtain ⟨_, _, h0, _⟩ := hx 0 3 0 1 rfl cellsInt1
      obtain ⟨_, _, h1, _⟩ := hx 1 3 1 1 rfl cellsInt1
      obtain ⟨_, _, h2, f2⟩ := hx 2 68 2 1 rfl cellsChs1
      simp only [List.drop_zero, List.drop_succ_cons, List.take_succ_cons, List.take_zero] at h0 h1 h2
      obtain ⟨a0, e0, _⟩ := rd_int Tryz.underlying3 h0
      obtain ⟨a1, e1, _⟩ := rd_int Tryz.underlying3 h1
      obtain ⟨CA, cc, chs, e2, r2, i2⟩ := rd_chs h2 f2
      simp only [List.cons.injEq, and_true] at e0 e1 e2
      subst e0 e1 e2
      exact ⟨⟨a0, a1, CA, cc, chs⟩, rfl, r2, i2⟩) h hf
  obtain ⟨h1, h2⟩ := row_of hr
  exact ⟨A, c, l, rfl, ⟨h1, fun s hs => (h2 s hs).1⟩, fun s hs => (h2 s hs).2⟩
theorem rd_gps {fuel : Nat} {cs : List Value} {y : DataW H × List MemPlace} (h : DataW.trod enc Tryz.prog W base spare held fuel 25 cs = some y) (hf : Fit Tryz.prog 25 y.1) :
    ∃ A c l, cs = [.slice A (List.length l) c] ∧ Row W (Lo W.heap.size) 2 cGp A l := by
  obtain ⟨A, c, l, rfl, hr, hw⟩ := rd_slice 2 16 cGp (fun _ => True) Tryz.underlying25 cellsGp1 (by decide) (by kernel_rfl) (fun n cs y h hf => by
    obtain ⟨hl, hx⟩ := rd_struct Tryz.underlying114 h hf
    rw [cellsGp1] at hl
    match cs, hl with
    | [c0, c1], _ =>
      obtain ⟨_, _, h0, _⟩ := hx 0 3 0 1 rfl cellsInt1
      obtain ⟨_, _, h1, _⟩ := hx 1 3 1 1 rfl cellsInt1
      simp only [List.drop_zero, List.drop_succ_cons, List.take_succ_cons, List.take_zero] at h0 h1
      obtain ⟨a0, e0, _⟩ := rd_int Tryz.underlying3 h0
      obtain ⟨a1, e1, _⟩ := rd_int Tryz.underlying3 h1
      simp only [List.cons.injEq, and_true] at e0 e1
      subst e0 e1
      exact ⟨(a0, a1), rfl, trivial⟩) h hf
  exact ⟨A, c, l, rfl, (row_of hr).1⟩
/-- a wave that was read -/
def WaveIn (W : World) (v : Wv) : Prop := SigsAt W (Lo W.heap.size) v.A v.sigs ∧ (∀ s ∈ v.sigs, ∀ x ∈ s.chs, x.val.size ≤ 9223372036854775807) ∧ ∃ gs : List (Int × Int), v.gn = gs.length ∧ Row W (Lo W.heap.size) 2 cGp v.G gs
theorem rd_wave {fuel : Nat} {cs : List Value} {y : DataW H × List MemPlace} (h : DataW.trod enc Tryz.prog W base spare held fuel 27 cs = some y) (hf : Fit Tryz.prog 27 y.1) : ∃ v : Wv, cs = cWv v ∧ WaveIn W v := by
  obtain ⟨hl, hx⟩ := rd_struct Tryz.underlying27 h hf
  rw [cellsWv1] at hl
  match cs, hl with
  | [c0, c1, c2], _ =>
    obtain ⟨_, _, h0, f0⟩ := hx 0 24 0 1 rfl cellsSgs1
    obtain ⟨_, _, h1, f1⟩ := hx 1 25 1 1 rfl cellsGps1
    obtain ⟨_, _, h2, _⟩ := hx 2 3 2 1 rfl cellsInt1
    simp only [List.drop_zero, List.drop_succ_cons, List.take_succ_cons, List.take_zero] at h0 h1 h2
    obtain ⟨A, cA, sigs, e0, r0, i0⟩ := rd_sgs h0 f0
    obtain ⟨G, cG, gs, e1, r1⟩ := rd_gps h1 f1
    obtain ⟨fin, e2, _⟩ := rd_int Tryz.underlying3 h2
    simp only [List.cons.injEq, and_true] at e0 e1 e2
    subst e0 e1 e2
    exact ⟨⟨A, cA, sigs, G, gs.length, cG, fin⟩, rfl, r0, i0, gs, rfl, r1⟩
end

end Go.Proofs.YtbhcmnfeeogdhaaGreatDoor

/-
  The loop of runs.Of in memory: the list so far in its box, the boxes that the iterator has caught.
-/
namespace Go.Proofs.YtbhcmnfeeogdhaaGreatDoor
open Go.RowKit Go.Shelf

theorem own_cellsT {w : World} {base : Nat} {e : TypeId} {size n : Nat} {A : Option Addr} {c : Nat} {xs : List Value} (h : w.ownsRow base e size (.slice A n c) n xs) {g : Nat} (hg : ob A = some g) : ∃ cs, w.heap[g]? = some (.cells cs e (0, 0)) := by
  rcases h.2 with ⟨h3, _⟩ | ⟨g', cap, cur, h3, _, h4, _⟩
  · rw [← ob_eq A n c, h3] at hg; cases hg
  · rw [← ob_eq A n c, h3] at hg
    have : g' = g := by simpa [Value.ownBlock] using hg
    subst this
    exact ⟨cur, h4⟩

/-- what the loop has at hand: the world at the entry, the source, the error's box, the base of its list, the list's box (the caught boxes lie behind it) -/
structure OFix where
  w : World
  M : Nat
  E : Nat
  B : Nat
  O : Nat
structure OFix.Ok (F : OFix) : Prop where
  m : F.M < F.w.heap.size
  e : F.w.heap.size + 2 ≤ F.E
  b : F.E < F.B
  o : F.B ≤ F.O
structure OfI (F : OFix) (f k to_ : Int) (l : List Spn) (A : Option Addr) (c : Nat) (W : World) : Prop where
  box : W.heap[F.O]? = some (.cells #[.slice A l.length c] 58 (0, 0))
  own : OwnSp W F.B A c l
  ch : ChB W (F.O + 1 + 1 + 1) (F.O + 1) (F.O + 1 + 1) (F.O + 1 + 1 + 1 + 1 + 1) (F.O + 1 + 1 + 1 + 1) f k to_ F.M F.E
  but : But F.w.heap.size (some F.M) F.w W
  r0 : W.heap[F.w.heap.size]? = some (.cells #[.slice none 0 0] 58 (0, 0))
  r1 : W.heap[F.w.heap.size + 1]? = some (errO 0)
def OI (F : OFix) (f k to_ : Int) (l : List Spn) (W : World) : Prop := ∃ A c, OfI F f k to_ l A c W

section
variable {F : OFix} {f k to_ : Int} {l : List Spn} {A : Option Addr} {c : Nat} {W W' : World}
theorem OfI.move (ok : F.Ok) (h : OfI F f k to_ l A c W) (hos : W'.os = W.os) (ht : W'.tape = W.tape) (hp : W'.output = W.output) (hsz : W.heap.size ≤ W'.heap.size)
    (h1 : ∀ b, b < F.w.heap.size → b ≠ F.M → W'.heap[b]? = W.heap[b]?) (h2 : ∀ (b : Nat) (cs : Array Value) (t : TypeId), b ≠ F.M → b ≠ F.E → W.heap[b]? = some (.cells cs t (0, 0)) → W'.heap[b]? = some (.cells cs t (0, 0))) : OfI F f k to_ l A c W' := by
  have o1 := ok.m
  have o2 := ok.e
  have o3 := ok.b
  have o4 := ok.o
  refine ⟨h2 _ _ _ (by omega) (by omega) h.box, own_block h.own fun g hg => ?_, ⟨h2 _ _ _ (by omega) (by omega) h.ch.f, h2 _ _ _ (by omega) (by omega) h.ch.s, h2 _ _ _ (by omega) (by omega) h.ch.g, h2 _ _ _ (by omega) (by omega) h.ch.e, h2 _ _ _ (by omega) (by omega) h.ch.t⟩,
    ⟨hos.trans h.but.os, ht.trans h.but.tape, hp.trans h.but.output, Nat.le_trans h.but.size hsz, fun b hb hn => ?_⟩, h2 _ _ _ (by omega) (by omega) h.r0, h2 _ _ _ (by omega) (by omega) h.r1⟩
  · obtain ⟨cs, hcs⟩ := own_cellsT h.own hg
    have := (own_ob h.own g hg).1
    rw [hcs]
    exact h2 _ _ _ (by omega) (by omega) hcs
  · rw [h1 b hb (fun e => hn (by rw [e]))]
    exact h.but.block b hb hn
theorem OfI.step (ok : F.Ok) (h : OfI F f k to_ l A c W) (hs : StepR F.M F.E W W') : OfI F f k to_ l A c W' := by
  have o1 := ok.m
  have o2 := ok.e
  have o3 := h.but.size
  refine h.move ok hs.1 hs.2.1 hs.2.2.1 hs.2.2.2.1 (fun b hb hn => hs.2.2.2.2 b (by omega) hn (by omega)) (fun b cs t h1 h2 h3 => (hs.2.2.2.2 b (box_lt h3) h1 h2).trans h3)
theorem OfI.grown (ok : F.Ok) (h : OfI F f k to_ l A c W) {row : Option Nat} (hg : W.grownBy W' row) (hr : ∀ r, row = some r → F.w.heap.size ≤ r ∧ ∃ o : Obj, W.heap[r]? = some o ∧ o.isCells = false) : OfI F f k to_ l A c W' := by
  have o3 := h.but.size
  refine h.move ok hg.os hg.tape hg.output hg.size (fun b hb hn => hg.block b (by omega) (fun e => by have := (hr b e.symm).1; omega)) (fun b cs t h1 h2 h3 => ?_)
  refine (hg.block b (box_lt h3) fun e => ?_).trans h3
  obtain ⟨_, o', h4, h5⟩ := hr b e.symm
  rw [h3] at h4; injection h4 with h4; subst h4; cases h5
theorem OfI.below (ok : F.Ok) (h : OfI F f k to_ l A c W) (hb : Below W.heap.size W W') : OfI F f k to_ l A c W' := h.step ok (StepR.below hb)
/-- behind the append of a round -/
theorem OfI.push (ok : F.Ok) (h : OfI F f k to_ l A c W) {l' : List Spn} {A' : Option Addr} {c' : Nat} (ho : OwnSp W' F.B A' c' l') (hb : But W.heap.size (ob A) W W') {W9 : World} (hW : W'.setCell ⟨F.O, 0, none⟩ (.slice A' l'.length c') = W9) :
    OfI F f k to_ l' A' c' W9 ∧ (∀ base, KeepsFrom base W W9) ∧ KpC F.M F.E (F.O + 1 + 1 + 1) (F.O + 1) (F.O + 1 + 1) (F.O + 1 + 1 + 1 + 1 + 1) (F.O + 1 + 1 + 1 + 1) W W9 := by
  have o1 := ok.m
  have o2 := ok.e
  have o3 := ok.b
  have o4 := ok.o
  have lo := box_lt h.box
  have old : ∀ (b : Nat), b < W.heap.size → b ≠ F.O → ob A ≠ some b → W9.heap[b]? = W.heap[b]? := fun b h1 h2 h3 => by
    rw [← hW, set_cell_other h2]
    exact hb.block b h1 (fun e => h3 e.symm)
  have noA : ∀ (b : Nat) (cs : Array Value) (t : TypeId), W.heap[b]? = some (.cells cs t (0, 0)) → t ≠ 63 → ob A ≠ some b := fun b cs t h1 h2 e => by
    obtain ⟨cs', h3⟩ := own_cellsT h.own e
    rw [h1] at h3
    injection h3 with h3
    injection h3 with _ h3
    exact h2 h3
  have noA' : ob A' ≠ some F.O := fun e => by
    obtain ⟨cs', h3⟩ := own_cellsT ho e
    rw [hb.block F.O lo (fun e => noA _ _ _ h.box (by decide) e.symm), h.box] at h3
    injection h3 with h3
    injection h3 with _ h3
    cases h3
  have lowA : ∀ b, b < F.B → ob A ≠ some b := fun b hlt e => by have := (own_ob h.own b e).1; omega
  have cell : ∀ (b : Nat) (cs : Array Value) (t : TypeId), b ≠ F.O → W.heap[b]? = some (.cells cs t (0, 0)) → t ≠ 63 → W9.heap[b]? = some (.cells cs t (0, 0)) := fun b cs t h1 h2 h3 => (old b (box_lt h2) h1 (noA b cs t h2 h3)).trans h2
  have hO := hb.block F.O lo (fun e => noA _ _ _ h.box (by decide) e.symm)
  have hsz : W.heap.size ≤ W9.heap.size := by rw [← hW]; simp [World.setCell]; exact hb.size
  refine ⟨⟨?_, ?_, ⟨cell _ _ _ (by omega) h.ch.f (by decide), cell _ _ _ (by omega) h.ch.s (by decide), cell _ _ _ (by omega) h.ch.g (by decide), cell _ _ _ (by omega) h.ch.e (by decide), cell _ _ _ (by omega) h.ch.t (by decide)⟩, ⟨?_, ?_, ?_, ?_, fun b hb' hn => ?_⟩, ?_, ?_⟩, fun base => ⟨hsz, fun j o _ h1 h2 => ?_⟩, fun b hb' => ?_, fun b cs h1 => ?_⟩
  · rw [← hW]; exact box_set1 (hO.trans h.box)
  · rw [← hW]
    exact own_block ho fun g hg => set_cell_other (fun e => noA' (by rw [hg, e]))
  · rw [← hW]; exact hb.os.trans h.but.os
  · rw [← hW]; exact hb.tape.trans h.but.tape
  · rw [← hW]; exact hb.output.trans h.but.output
  · exact Nat.le_trans h.but.size hsz
  · have := h.but.size
    rw [old b (by omega) (by omega) (lowA b (by omega))]
    exact h.but.block b hb' hn
  · exact (old _ (box_lt h.r0) (by omega) (lowA _ (by omega))).trans h.r0
  · exact (old _ (box_lt h.r1) (by omega) (lowA _ (by omega))).trans h.r1
  · rw [old j (box_lt h1) (fun e => by subst e; rw [h.box] at h1; injection h1 with h1; subst h1; cases h2) (fun e => by
      obtain ⟨cs', h3⟩ := own_cellsT h.own e
      rw [h1] at h3; injection h3 with h3; subst h3; cases h2)]
    exact h1
  · rcases hb' with hb' | rfl | rfl | rfl | rfl | rfl | rfl
    · exact old b (by omega) (by omega) (lowA b (by omega))
    · exact old _ (by omega) (by omega) (lowA _ (by omega))
    · exact (cell _ _ _ (by omega) h.ch.f (by decide)).trans h.ch.f.symm
    · exact (cell _ _ _ (by omega) h.ch.s (by decide)).trans h.ch.s.symm
    · exact (cell _ _ _ (by omega) h.ch.g (by decide)).trans h.ch.g.symm
    · exact (cell _ _ _ (by omega) h.ch.e (by decide)).trans h.ch.e.symm
    · exact (cell _ _ _ (by omega) h.ch.t (by decide)).trans h.ch.t.symm
  · exact cell _ _ _ (fun e => by subst e; rw [h.box] at h1; injection h1 with h1; injection h1 with _ h1; cases h1) h1 (by decide)
end

end Go.Proofs.YtbhcmnfeeogdhaaGreatDoor

/-
  wavestoreref50.Type in plain Lean.
-/
namespace Go.Proofs.YtbhcmnfeeogdhaaGreatDoor
open Go.RowKit

/-- all operands are values of Bits -/
def allBt (ts : List (Int × Int)) : Bool := ts.all fun p => p.1 == 0
theorem widths_ts : ∀ ts : List (Int × Int), widthsF (ts.map some) = if allBt ts then some (ts.map (·.2)) else none
  | [] => rfl
  | (k, w) :: ts => by
    rw [List.map_cons, widthsF, widths_ts ts]
    unfold allBt
    rw [List.all_cons]
    by_cases h : k = 0
    · rw [if_pos h, h]
      cases h2 : ts.all fun p => p.1 == 0 <;> simp
    · rw [if_neg h]
      have : (k == 0) = false := beq_eq_false_iff_ne.2 h
      simp [this]
theorem widths_none {l : List (Option (Int × Int))} (h : none ∈ l) : widthsF l = none := by
  induction l with
  | nil => cases h
  | cons x l ih =>
    match x, h with
    | none, _ => rfl
    | some (k, w), h =>
      rw [widthsF, ih (by simpa using h)]
      split <;> rfl
/-- a type out of the types of the operands -/
def tyT (kind a b c : Int) (sz : Nat) (ts : List (Int × Int)) : Option (Int × Int) :=
  if kind = 1 then (if ts ≠ [] then none else if (c = 1 ∨ c = 2) ∧ b = 0 then some (c, 0) else if c = 0 ∧ b ≤ 128 then widthOk b else none)
  else if kind = 2 then (if ts ≠ [] then none else if sz ≤ 128 then widthOk sz else none)
  else if kind = 4 then (if ts ≠ [] then none else some (1, 0))
  else if kind = 5 then (if ts ≠ [] then none else some (2, 0))
  else if allBt ts then (if 1 ≤ kind ∧ kind ≤ 16 then widthOk (operF kind a b (ts.map (·.2))) else none) else none
theorem type_ts (kind at_ : Int) (name value : ByteArray) (a b c d : Int) (KA : Option Addr) (kc : Nat) (kids : List Nd) {ts : List (Int × Int)} (h : kids.map typeF = ts.map some) : typeF (.mk kind at_ name value a b c d KA kc kids) = tyT kind a b c value.size ts := by
  have hne : (kids ≠ []) ↔ (ts ≠ []) := by
    have := congrArg List.length h
    rw [List.length_map, List.length_map] at this
    constructor
    · intro h1 h2; rw [h2] at this; exact h1 (List.eq_nil_of_length_eq_zero this)
    · intro h1 h2; rw [h2] at this; exact h1 (List.eq_nil_of_length_eq_zero this.symm)
  rw [typeF_mk, h, widths_ts]
  unfold tyT
  simp only [hne]
  split
  · rfl
  split
  · rfl
  split
  · rfl
  split
  · rfl
  cases allBt ts <;> rfl
theorem type_no (kind at_ : Int) (name value : ByteArray) (a b c d : Int) (KA : Option Addr) (kc : Nat) {kids : List Nd} {k : Nd} (hk : k ∈ kids) (h : typeF k = none) : typeF (.mk kind at_ name value a b c d KA kc kids) = none := by
  have hne : kids ≠ [] := fun e => by rw [e] at hk; cases hk
  rw [typeF_mk, widths_none (List.mem_map.2 ⟨k, hk, h⟩)]
  simp [hne]

def cTy (p : Int × Int) : List Value := [.int .i64 p.1, .int .i64 p.2]
theorem infoTy : (Tryz.prog.info? 129).map (fun i => (i.zero, i.size, i.bytes)) = some (some (.agg #[.int .i64 0, .int .i64 0]), 2, 16) := by kernel_rfl
def OwnTy (w : World) (base : Nat) (A : Option Addr) (c : Nat) (l : List (Int × Int)) : Prop := w.ownsRow base 129 2 (.slice A l.length c) l.length (l.flatMap cTy)
theorem OwnTy.of_row {w : World} {base : Nat} {v : Value} {n : Nat} {vs : List Value} {l : List (Int × Int)} (h : w.ownsRow base 129 2 v n vs) (hn : n = l.length) (hv : vs = l.flatMap cTy) : ∃ A c, v = .slice A l.length c ∧ OwnTy w base A c l := by
  subst hn hv
  rcases Joins.ownsRow_forms h with ⟨rfl, h0⟩ | ⟨g, cap, rfl⟩
  · exact ⟨none, 0, by rw [h0], by unfold OwnTy; rw [h0] at h ⊢; exact h⟩
  · exact ⟨_, cap, rfl, h⟩
theorem OwnTy.row {w : World} {base : Nat} {A : Option Addr} {c : Nat} {l : List (Int × Int)} (h : OwnTy w base A c l) : Row w (fun b => base ≤ b ∧ b < w.heap.size) 2 cTy A l := fun hne => by
  obtain ⟨g, rfl, h1⟩ := own_place h (List.length_pos_iff.2 hne)
  have h2 := own_ob h g rfl
  refine ⟨g, 0, rfl, h2, fun i s hi j hj => ?_⟩
  have hlt := (List.getElem?_eq_some_iff.1 hi).1
  rw [Nat.zero_add, World.ownsRow.cellAt h _ (by omega), flat_at cTy 2 (fun _ => rfl) hi hj]
theorem ty_one (p : Int × Int) : ∀ u ∈ cTy p, u.oneCell' = true := by
  intro u hu
  simp only [cTy, List.mem_cons, List.not_mem_nil, or_false] at hu
  rcases hu with rfl | rfl <;> rfl
theorem ty_empty (W : World) {base : Nat} (hb : base ≤ W.heap.size) : OwnTy (W.alloc (.cells #[] 129)) base (some ⟨W.heap.size, 0, none⟩) 0 [] := World.ownsRow_lit W #[] 0 hb (by simp [maxLen]) rfl
def Ty1 (kids : List Nd) (w : World) (o i : Value) (wr : World) : Prop :=
  ∃ (j : Nat) (A : Option Addr) (c : Nat) (ts : List (Int × Int)), j ≤ kids.length ∧ i = .int .i64 (j : Int) ∧ o = .slice A ts.length c ∧ OwnTy wr w.heap.size A c ts ∧ (kids.take j).map typeF = ts.map some ∧ Below w.heap.size w wr
def Ty2 (ts : List (Int × Int)) (wd ok i : Value) : Prop := ∃ k : Nat, k ≤ ts.length ∧ i = .int .i64 (k : Int) ∧ ok = .bool (allBt (ts.take k)) ∧ wd = .int .i64 (sumF ((ts.take k).map (·.2)))
theorem sum_bd : ∀ {ts : List (Int × Int)}, (∀ p ∈ ts, 0 ≤ p.2 ∧ p.2 ≤ 128) → 0 ≤ sumF (ts.map (·.2)) ∧ sumF (ts.map (·.2)) ≤ 128 * ts.length
  | [], _ => by simp [sumF]
  | p :: ts, h => by
    have h1 := sum_bd (ts := ts) fun q hq => h q (by simp [hq])
    have h2 := h p (by simp)
    rw [List.map_cons, sumF_cons, List.length_cons]
    omega
theorem allBt_snoc (ts : List (Int × Int)) (p : Int × Int) : allBt (ts ++ [p]) = (allBt ts && (p.1 == 0)) := by unfold allBt; rw [List.all_append]; simp
/-- the operators of two operands of one width -/
def twoB (kind : Int) : Bool := decide (9 ≤ kind ∧ kind ≤ 13)
def RtC (n : Nd) : Prop := ∀ w : World, TreesAt w (Lo w.heap.size) n.KA n.kids → Calls Tryz.prog 41 #[.agg (cNd n).toArray] w (RetV (typV (typeF n)) w)

theorem ty_op {kind a b c : Int} {sz : Nat} {ts : List (Int × Int)} (hne : ts ≠ []) (h : allBt ts = true) : tyT kind a b c sz ts = if 1 ≤ kind ∧ kind ≤ 16 then widthOk (operF kind a b (ts.map (·.2))) else none := by
  unfold tyT
  by_cases k1 : kind = 1
  · subst k1; simp [hne, operF, widthOk]
  by_cases k2 : kind = 2
  · subst k2; simp [hne, operF, widthOk]
  by_cases k4 : kind = 4
  · subst k4; simp [hne, operF, widthOk]
  by_cases k5 : kind = 5
  · subst k5; simp [hne, operF, widthOk]
  simp [k1, k2, k4, k5, h]
theorem ty_bad {kind a b c : Int} {sz : Nat} {ts : List (Int × Int)} (hne : ts ≠ []) (h : allBt ts = false) : tyT kind a b c sz ts = none := by
  unfold tyT
  simp [hne, h]
theorem sum_ge {ts : List (Int × Int)} {sm : Int} (hne : ts ≠ []) (h : allBt ts = true) (hb : ∀ p ∈ ts, (p.1 = 0 → 1 ≤ p.2 ∧ p.2 ≤ 128) ∧ (p.1 ≠ 0 → p.2 = 0)) (hs : sumF (ts.map (·.2)) = sm) : 1 ≤ sm := by
  cases ts with
  | nil => exact absurd rfl hne
  | cons p ts =>
    have h1 := sum_bd (ts := ts) fun q hq => by have := hb q (by simp [hq]); omega
    have h2 := (hb p (by simp)).1 (by unfold allBt at h; rw [List.all_cons, Bool.and_eq_true, beq_iff_eq] at h; exact h.1)
    rw [List.map_cons, sumF_cons] at hs
    omega
theorem ty_sig {a b c : Int} {sz : Nat} : tyT 1 a b c sz [] = if (c = 1 ∨ c = 2) ∧ b = 0 then some (c, 0) else if c = 0 ∧ b ≤ 128 then widthOk b else none := by unfold tyT; rw [if_pos rfl, if_neg (by simp)]
theorem ty_bits {a b c : Int} {sz : Nat} : tyT 2 a b c sz [] = if sz ≤ 128 then widthOk sz else none := by unfold tyT; rw [if_neg (by omega), if_pos rfl, if_neg (by simp)]
theorem one_or_two {ts : List (Int × Int)} (h1 : 0 < ts.length) (h2 : ¬ 3 ≤ ts.length) : (∃ p, ts = [p]) ∨ ∃ p q, ts = [p, q] := by
  match ts, h1, h2 with
  | [p], _, _ => exact .inl ⟨p, rfl⟩
  | [p, q], _, _ => exact .inr ⟨p, q, rfl⟩
  | _ :: _ :: _ :: _, _, h => simp at h
theorem width_no {w : Int} (h : ¬ 1 ≤ w) : widthOk w = none := by unfold widthOk; rw [if_neg h]
theorem width_yes {w : Int} (h : 1 ≤ w) : widthOk w = some (0, w) := by unfold widthOk; rw [if_pos h]
theorem ty_nil {kind a b c : Int} {sz : Nat} (k1 : kind ≠ 1) (k2 : kind ≠ 2) (k4 : kind ≠ 4) (k5 : kind ≠ 5) : tyT kind a b c sz [] = none := by
  have h0 : operF kind a b [] = 0 := by
    unfold operF
    split
    · rfl
    split
    · rfl
    split
    · rfl
    split
    · rfl
    split <;> rfl
  unfold tyT
  rw [if_neg k1, if_neg k2, if_neg k4, if_neg k5, List.map_nil, h0]
  simp [allBt, widthOk]
theorem ty_many {kind a b c : Int} {sz : Nat} {ts : List (Int × Int)} (hl : 3 ≤ ts.length) (h : allBt ts = true) (k7 : kind ≠ 7) : tyT kind a b c sz ts = none := by
  rw [ty_op (fun e => by rw [e] at hl; simp at hl) h]
  have h0 : operF kind a b (ts.map (·.2)) = 0 := by
    match ts, hl with
    | p :: q :: r :: s, _ =>
      unfold operF
      simp [k7]
  rw [h0]
  simp [widthOk]
theorem ty_cat {a b c : Int} {sz : Nat} {ts : List (Int × Int)} (hne : ts ≠ []) (h : allBt ts = true) : tyT 7 a b c sz ts = if sumF (ts.map (·.2)) ≤ 128 then widthOk (sumF (ts.map (·.2))) else none := by
  rw [ty_op hne h, if_pos (by omega)]
  unfold operF
  rw [if_neg (by omega), if_pos rfl]
  split
  · rfl
  · rfl
theorem ty_one_no {kind a b c : Int} {sz : Nat} {p : Int × Int} (h : allBt [p] = true) (k6 : kind ≠ 6) (k7 : kind ≠ 7) (k8 : kind ≠ 8) (kr : ¬ (14 ≤ kind ∧ kind ≤ 16)) : tyT kind a b c sz [p] = none := by
  rw [ty_op (by simp) h]
  have h0 : operF kind a b [p.2] = 0 := by
    unfold operF
    simp only [if_neg k6, if_neg k7, if_neg k8, if_neg kr]
    split <;> rfl
  show (if 1 ≤ kind ∧ kind ≤ 16 then widthOk (operF kind a b [p.2]) else none) = none
  rw [h0]
  simp [widthOk]
theorem ty_two_no {kind a b c : Int} {sz : Nat} {p q : Int × Int} (h : allBt [p, q] = true) (k7 : kind ≠ 7) (kr : twoB kind = false) : tyT kind a b c sz [p, q] = none := by
  rw [ty_op (by simp) h]
  have kr2 : ¬ (9 ≤ kind ∧ kind ≤ 13) := of_decide_eq_false kr
  have h0 : operF kind a b [p.2, q.2] = 0 := by
    unfold operF
    simp only [if_neg k7, if_neg kr2]
    split
    · rfl
    split
    · rfl
    split <;> rfl
  show (if 1 ≤ kind ∧ kind ≤ 16 then widthOk (operF kind a b [p.2, q.2]) else none) = none
  rw [h0]
  simp [widthOk]
theorem ty_two {kind a b c : Int} {sz : Nat} {p q : Int × Int} (h : allBt [p, q] = true) (kr : twoB kind = true) : tyT kind a b c sz [p, q] = if p.2 = q.2 then widthOk p.2 else none := by
  have kr2 : 9 ≤ kind ∧ kind ≤ 13 := of_decide_eq_true kr
  rw [ty_op (by simp) h, if_pos (by omega)]
  show widthOk (operF kind a b [p.2, q.2]) = _
  unfold operF
  rw [if_neg (by omega), if_neg (by omega), if_neg (by omega), if_neg (by omega), if_pos kr2]
  dsimp only
  split
  · rfl
  · rfl

end Go.Proofs.YtbhcmnfeeogdhaaGreatDoor
