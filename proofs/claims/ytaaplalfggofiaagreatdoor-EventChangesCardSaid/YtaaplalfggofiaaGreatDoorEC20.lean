/-
  Several texts in one: QType, CTru, Reads51, EIs. Each says at its head what it holds.
-/
import Derived.Test.YtaaplalfggofiaaGreatDoorEC19
import Derived.Test.YtaaplalfggofiaaGreatDoorEC18
import Derived.Test.YtaaplalfggofiaaGreatDoorEC3
import Derived.Test.YtaaplalfggofiaaGreatDoorEC10
import Derived.Test.YtaaplalfggofiaaGreatDoorEC17
import Derived.Deep.RegionHeld3
import Derived.Test.YtaaplalfggofiaaGreatDoorEC2
import Derived.Test.YtaaplalfggofiaaGreatDoorEC16
import Derived.Test.YtaaplalfggofiaaGreatDoorEC14
import Derived.Deep.QuietTactic
import Derived.BigQuiet

/-
  qcheck.Type: the kind and the width of a resolved value.
-/
namespace Go.Proofs.YtaaplalfggofiaaGreatDoor
open Go.RowKit

set_option maxRecDepth 100000 in
set_option maxHeartbeats 4000000 in
theorem type_op (n : Nd) (hkk : ¬ (n.kind = 1 ∨ n.kind = 2 ∨ n.kind = 4 ∨ n.kind = 5)) (ih : ∀ k ∈ n.kids, TypeC k) : TypeC n := by
  intro w ht
  have HKK := hide hkk
  have IH := hide ih
  clear ih hkk
  obtain ⟨kind, at_, name, value, a, b, c, d, KA, kc, kids⟩ := n
  unfold Nd.KA Nd.kids at ht
  unfold cNd
  have hl := ht.len
  obtain ⟨W0, hW0⟩ : ∃ W0, w.alloc (.cells #[.int .i64 kind, .int .i64 at_, .string name, .string value, .int .i64 a, .int .i64 b, .int .i64 c, .int .i64 d, .slice KA kids.length kc] 28) = W0 := ⟨_, rfl⟩
  have g0 := new_at hW0
  have hb0 : Below w.heap.size w W0 := by rw [← hW0]; exact (Below.refl _ _).alloc (Nat.le_refl _) _
  have HT := hide (ht.grow hb0)
  have HG0 := hide g0
  have HB0 := hide hb0
  have HW0 := hide hW0
  obtain ⟨y0, y1, y2, y3, y4, y5, y6, y7, y8⟩ := box9 g0
  clear ht g0 hb0 hW0
  try dsimp only [Nd.kind, Nd.value, Nd.a, Nd.b, Nd.c, Nd.d, Nd.kids]
  have HQ := hide (show ∀ (o : Option (Int × Int)) (wr : World), typeF (.mk kind at_ name value a b c d KA kc kids) = o → Below W0.heap.size W0 wr → RetV (typV (typeF (.mk kind at_ name value a b c d KA kc kids))) w (.returned (typV o)) wr from fun o wr h hb => ⟨by rw [h], bstep HB0.out hb⟩)
  have HEQ := hide (typeF_mk kind at_ name value a b c d KA kc kids)
  go_enter Tryz.func35, Tryz.ntmps35
  go_upto_region 1 with (fail)
  rw [HW0.out]
  have hkk := HKK.out
  dsimp only [Nd.kind] at hkk
  have k1 : ¬ kind = 1 := fun h => hkk (.inl h)
  have k2 : ¬ kind = 2 := fun h => hkk (.inr (.inl h))
  have k4 : ¬ kind = 4 := fun h => hkk (.inr (.inr (.inl h)))
  have k5 : ¬ kind = 5 := fun h => hkk (.inr (.inr (.inr h)))
  clear hkk HKK
  rw [if_neg k1, if_neg k2, if_neg k4, if_neg k5] at HEQ
  have T1 : (kind == 1) = false := beq_eq_false_iff_ne.2 k1
  have T2 : (kind == 2) = false := beq_eq_false_iff_ne.2 k2
  have T4 : (kind == 4) = false := beq_eq_false_iff_ne.2 k4
  have T5 : (kind == 5) = false := beq_eq_false_iff_ne.2 k5
  clear k1 k2 k4 k5
  have HWD := hide (widths_any KA kc kids W0 HT.out IH.out)
  go_upto_region 7 with (go_at_call 83; refine HWD.out.mono ?_; rintro e w2 ⟨A2, c2, ws, ok, rfl, hb2, hi2, hok1, hok2⟩; have HB2 := hide hb2; have HI2 := hide hi2; have HK1 := hide hok1; have HK2 := hide hok2; clear hb2 hi2 hok1 hok2)
  clear y0 y1 y2 y3 y4 y5 y6 y7 y8
  cases ok with
  | false =>
    have HR := hide (HQ.out none w2 (by rw [HEQ.out, HK2.out rfl]) HB2.out)
    clear HQ HEQ
    go_wp2_with fail
    go_ret3
    exact HR.out
  | true =>
    have hws := HK1.out rfl
    obtain ⟨hw1, hw2⟩ := ws_of hws
    have HWS := hide hws
    have HW1 := hide hw1
    have HW2 := hide hw2
    clear hws hw1 hw2
    rw [HWS.out] at HEQ
    dsimp only at HEQ
    obtain ⟨y0, y1, y2, y3, y4, y5, y6, y7, y8⟩ := box9 ((HB2.out.block _ (box_lt HG0.out)).trans HG0.out)
    have hisv := isValue_any (.mk kind at_ name value a b c d KA kc kids) w2 (HT.out.grow HB2.out)
    unfold cNd at hisv
    have HISV := hide hisv
    clear hisv
    dsimp only [Nd.kind] at HISV
    by_cases hv : 1 ≤ kind ∧ kind ≤ 16
    · rw [show isValB kind = true from decide_eq_true hv] at HISV
      rw [if_pos hv] at HEQ
      clear hv
      go_upto_region 8 with (go_at_call 84; refine HISV.out.mono ?_; rintro e w3 ⟨rfl, hb3⟩; have HB3 := hide hb3; clear hb3)
      clear y0 y1 y2 y3 y4 y5 y6 y7 y8
      have HB23 := hide (bstep HB2.out HB3.out)
      obtain ⟨y0, y1, y2, y3, y4, y5, y6, y7, y8⟩ := box9 ((HB23.out.block _ (box_lt HG0.out)).trans HG0.out)
      have hop := operator_any (.mk kind at_ name value a b c d KA kc kids) A2 c2 ws w3 (HT.out.grow HB23.out) ⟨HI2.out.step HB3.out, by rw [HW2.out]; omega, HW1.out⟩
      unfold cNd at hop
      have HOP := hide hop
      clear hop
      dsimp only [Nd.kind, Nd.a, Nd.b] at HOP
      go_upto_region 21 with (go_at_call 85; refine HOP.out.mono ?_; rintro e w4 ⟨rfl, hb4⟩; have HB4 := hide hb4; clear hb4)
      clear y0 y1 y2 y3 y4 y5 y6 y7 y8
      by_cases h1 : 1 ≤ operF kind a b ws
      · have T9 : decide (operF kind a b ws < 1) = false := decide_eq_false (by omega)
        have HR := hide (HQ.out (some (0, operF kind a b ws)) w4 (by rw [HEQ.out]; unfold widthOk; rw [if_pos h1]) (bstep HB23.out HB4.out))
        clear HQ HEQ h1
        go_wp2_with fail
        go_ret3
        exact HR.out
      · have T9 : decide (operF kind a b ws < 1) = true := decide_eq_true (by omega)
        have HR := hide (HQ.out none w4 (by rw [HEQ.out]; unfold widthOk; rw [if_neg h1]) (bstep HB23.out HB4.out))
        clear HQ HEQ h1
        go_wp2_with fail
        go_ret3
        exact HR.out
    · rw [show isValB kind = false from decide_eq_false hv] at HISV
      rw [if_neg hv] at HEQ
      clear hv
      have HQ2 := hide (fun wr hb => HQ.out none wr HEQ.out hb)
      clear HQ HEQ
      go_wp2_with (go_at_call 84; refine HISV.out.mono ?_; rintro e w3 ⟨rfl, hb3⟩; have HB3 := hide hb3; clear hb3)
      go_ret3
      exact HQ2.out _ (bstep HB2.out HB3.out)

theorem type_any (n : Nd) : TypeC n := by
  induction n using Nd.ind with
  | h n ih =>
  by_cases hk : n.kind = 1 ∨ n.kind = 2 ∨ n.kind = 4 ∨ n.kind = 5
  · exact type_leaf n hk
  · exact type_op n hk ih

end Go.Proofs.YtaaplalfggofiaaGreatDoor

/-
  condition.truth: the result of a condition for the values of its signals. Printed by wip/genctru.py.
-/
namespace Go.Proofs.YtaaplalfggofiaaGreatDoor
open Go.RowKit

theorem kids_le {most : Nat} {n : Nd} (h : FewOk most n) : n.kids.length ≤ most := by
  have h1 := ((FewOk_eq most n).1 h).2.2.1
  have h2 := sum_nodes n.kids most fun k hk => ⟨nodes_pos k, (((FewOk_eq most n).1 h).2.2.2 k hk).nodes⟩
  rw [nodesF_eq] at h1
  omega
theorem siz_of {env : Int → ByteArray} (n : Nd) : EnvOk env n → FewOk 60 n → ∀ p, typeF n = some p → Siz env n := by
  induction n using Nd.ind with
  | h n ih =>
  intro he hf p hp
  have hkl := kids_le hf
  obtain ⟨_, _, he3⟩ := (EnvOk_eq env n).1 he
  obtain ⟨_, _, _, hf4⟩ := (FewOk_eq 60 n).1 hf
  rw [typeF_eq] at hp
  unfold typeB at hp
  have leaf : n.kids = [] → Siz env n := fun h => (Siz_eq env n).2 ⟨fun _ _ _ _ => ⟨by omega, fun k hk => by rw [h] at hk; cases hk⟩, fun k hk => by rw [h] at hk; cases hk⟩
  by_cases k1 : n.kind = 1
  · rw [if_pos k1] at hp
    by_cases h : n.kids = []
    · exact leaf h
    · rw [if_pos h] at hp; cases hp
  rw [if_neg k1] at hp
  by_cases k2 : n.kind = 2
  · rw [if_pos k2] at hp
    by_cases h : n.kids = []
    · exact leaf h
    · rw [if_pos h] at hp; cases hp
  rw [if_neg k2] at hp
  by_cases k4 : n.kind = 4
  · rw [if_pos k4] at hp
    by_cases h : n.kids = []
    · exact leaf h
    · rw [if_pos h] at hp; cases hp
  rw [if_neg k4] at hp
  by_cases k5 : n.kind = 5
  · rw [if_pos k5] at hp
    by_cases h : n.kids = []
    · exact leaf h
    · rw [if_pos h] at hp; cases hp
  rw [if_neg k5] at hp
  cases hws : widthsF (n.kids.map typeF) with
  | none => rw [hws] at hp; cases hp
  | some ws =>
    obtain ⟨hl, hat⟩ := widthsF_at hws
    have key : ∀ k ∈ n.kids, ∃ u, typeF k = some (0, u) := fun k hk => by
      obtain ⟨i, hi⟩ := List.getElem?_of_mem hk
      have hlt : i < ws.length := by rw [hl, List.length_map]; exact (List.getElem?_eq_some_iff.1 hi).1
      have := hat i ws[i] (List.getElem?_eq_getElem hlt)
      rw [List.getElem?_map, hi] at this
      exact ⟨_, by injection this⟩
    refine (Siz_eq env n).2 ⟨fun _ _ _ _ => ⟨by omega, fun k hk => ?_⟩, fun k hk => ?_⟩
    · obtain ⟨u, hu⟩ := key k hk
      exact (val_size k (he3 k hk) 0 u hu).1
    · obtain ⟨u, hu⟩ := key k hk
      exact ih k hk (he3 k hk) (hf4 k hk) _ hu
theorem typedK_some {l : List Nd} {k : Int} (h : typedK l = some k) : ∃ u, ∀ x ∈ l, typeF x = some (k, u) := by
  cases l with
  | nil => cases h
  | cons x r =>
    unfold typedK at h
    dsimp only at h
    cases hx : typeF x with
    | none => rw [hx] at h; cases h
    | some p =>
      rw [hx] at h
      dsimp only at h
      split at h
      · rename_i hall
        injection h with h
        subst h
        exact ⟨p.2, fun y hy => by rcases List.mem_cons.1 hy with rfl | hy; exact hx; exact hall y hy⟩
      · cases h
theorem chain2 (w1 : World) (a b : Obj) {V : World} (hV : (w1.alloc a).alloc b = V) : V.heap[w1.heap.size]? = some a ∧ V.heap[w1.heap.size + 1]? = some b ∧ Below w1.heap.size w1 V := by
  subst hV
  have s1 : (w1.alloc a).heap.size = w1.heap.size + 1 := World.size_alloc _ _
  have n0 := heap_alloc_new w1 a
  have n1 := heap_alloc_new (w1.alloc a) b
  rw [s1] at n1
  exact ⟨box_alloc n0, n1, ((Below.refl _ _).alloc (Nat.le_refl _) _).alloc (by omega) _⟩
/-- a value of a typed tree, called -/
theorem cval_of {env : Int → ByteArray} {n : Nd} {p : Int × Int} (hp : typeF n = some p) (w : World) (Bm q : Nat) (ht : TreesAt w (Lo w.heap.size) n.KA n.kids) (hm : MapS w Bm q env) (hok : okF n) (he : EnvOk env n) (hf : FewOk 60 n) :
    Calls Tryz.prog 87 #[.agg (cNd n).toArray, .map (some Bm)] w (RetV (.string (valF env n)) w) := cval_any env n w Bm q ht hm hok (siz_of n he hf p hp)

end Go.Proofs.YtaaplalfggofiaaGreatDoor

/-
  Waves and trees of nodes, read out of the arguments.
-/
namespace Go.Proofs.YtaaplalfggofiaaGreatDoor
open Go.ChangeShapes Go.WideShapes Go.ChangeAt Go.RowKit Go.Deep

section
variable {H : Type} {enc : TypeId × Value → H} {P : Program} {W : World} {base : Nat} {spare : Nat → Bool} {held : Bool}
theorem rd_slice_lt {α : Type} {t e : TypeId} (size bytes : Nat) (cells : α → List Value) (hd : α → Prop) (ht : P.underlying t = some (.slice e)) (hs : P.cellsOf e = size) (hpos : 0 < size) (hby : P.bytesOf e = bytes) {fuel : Nat}
    (rd : ∀ n cs y, n < fuel → DataW.trod enc P W base spare held n e cs = some y → Fit P e y.1 → ∃ a, cs = cells a ∧ hd a)
    {cs : List Value} {y : DataW H × List MemPlace} (h : DataW.trod enc P W base spare held fuel t cs = some y) (hf : Fit P t y.1) :
    ∃ (A : Option Addr) (c : Nat) (xs : List α), cs = [.slice A xs.length c] ∧ RowAt W (fun b => b < W.heap.size) size cells hd A xs ∧ xs.length * bytes ≤ reachBytes := by
  rcases DataW.trod_slice ht h with ⟨rfl, rfl⟩ | ⟨a, len, cap, elems, rest, n, hfu, rfl, rfl, hb, hl, hc, hel, hi, _⟩
  · exact ⟨none, 0, [], rfl, fun h => absurd rfl h, by simp⟩
  · have hfit : ∀ i (h : i < elems.length), Fit P e elems[i].1 := fun i h m hm => hf m (by
      simp only [DataW.weights, ht, List.mem_cons, List.mem_append]
      exact .inr (.inl (weightsAll_mem (List.mem_map.2 ⟨elems[i], List.getElem_mem h, rfl⟩) m hm)))
    have hrow : ∀ i, i < len → ∃ x : α, (∀ j, j < size → W.cell? ((a.add (i * size)).add j) = (cells x)[j]?) ∧ hd x ∧ (cells x).length = size := fun i hlt => by
      have h1 := hi i hlt
      have hlt' : i < elems.length := by omega
      rw [List.getElem?_eq_getElem hlt', Option.bind_eq_some_iff] at h1
      obtain ⟨cs, hcs, htr⟩ := h1
      obtain ⟨x, rfl, hx⟩ := rd n cs _ (by omega) htr (hfit i hlt')
      obtain ⟨_, hcl, hat⟩ := World.cells?_some hcs
      rw [hs] at hcl hat
      exact ⟨x, hat, hx, hcl⟩
    obtain ⟨xs, hxl, hx⟩ := pick_list _ len hrow
    refine ⟨some a, cap, xs, by rw [hxl], fun hne => ?_, ?_⟩
    · have hp : 0 < xs.length := List.length_pos_iff.2 hne
      obtain ⟨b, off, spot⟩ := a
      have h0 : W.cell? ((Addr.add ⟨b, off, spot⟩ (0 * size)).add 0) = (cells xs[0])[0]? := (hx 0 _ (List.getElem?_eq_getElem hp)).1 0 hpos
      have hl0 := (hx 0 _ (List.getElem?_eq_getElem hp)).2.2
      rw [List.getElem?_eq_getElem (by omega)] at h0
      have hspot : spot = none := by simpa [Addr.add] using World.cell?_spot h0
      subst hspot
      have hblk := World.block_lt_of_cell? _ _ h0
      rw [addr_plus, addr_plus] at hblk
      refine ⟨b, off, rfl, hblk, fun i x hi => ⟨fun j hj => ?_, (hx i x hi).2.1⟩⟩
      have := (hx i x hi).1 j hj
      rwa [addr_plus, addr_plus] at this
    · have := hf ((elems.length + rest.length) * P.bytesOf e) (by simp [DataW.weights, ht])
      rw [hby] at this
      have h2 : xs.length * bytes ≤ (elems.length + rest.length) * bytes := Nat.mul_le_mul_right _ (by omega)
      omega
theorem rd_struct_lt {t : TypeId} {fs : Array Field} (ht : P.underlying t = some (.struct fs)) {n : Nat} {cs : List Value} {y : DataW H × List MemPlace} (h : DataW.trod enc P W base spare held n t cs = some y) (hf : Fit P t y.1) :
    cs.length = P.cellsOf t ∧ ∀ (i : Nat) (ft : TypeId) (off k : Nat), (fs[i]?.map fun f => (f.type, f.offset)) = some (ft, off) → P.cellsOf ft = k → ∃ m z, m < n ∧ DataW.trod enc P W base spare held m ft ((cs.drop off).take k) = some z ∧ Fit P ft z.1 := by
  obtain ⟨xs, m, hfu, rfl, hl, hxl, hx⟩ := DataW.trod_struct ht h
  refine ⟨hl, fun i ft off k hi hk => ?_⟩
  subst hk
  rw [Option.map_eq_some_iff] at hi
  obtain ⟨f, hi, e⟩ := hi
  injection e with e1 e2
  subst e1 e2
  have hlt : i < fs.size := (Array.getElem?_eq_some_iff.1 hi).1
  have h1 := hx i f hi
  rw [List.getElem?_eq_getElem (by omega)] at h1
  refine ⟨m, _, by omega, h1, fun k hk => hf k ?_⟩
  simp only [DataW.weights, ht]
  refine DataW.weights_mem_each (j := i) (t := f.type) (d := xs[i].1) ?_ ?_ k hk
  · rw [List.getElem?_map, Array.getElem?_toList, hi]; rfl
  · rw [List.getElem?_map, List.getElem?_eq_getElem (by omega)]; rfl
/-- the row that a reader gives -/
theorem row_of {α : Type} {size : Nat} {cells : α → List Value} {hd : α → Prop} {A : Option Addr} {xs : List α} (h : RowAt W (fun b => b < W.heap.size) size cells hd A xs) : Row W (Lo W.heap.size) size cells A xs ∧ ∀ x ∈ xs, hd x := by
  refine ⟨fun hne => ?_, fun x hx => ?_⟩
  · obtain ⟨b, off, e, hb, hc⟩ := h hne
    exact ⟨b, off, e, hb, fun i x hi j hj => (hc i x hi).1 j hj⟩
  · obtain ⟨i, hi⟩ := List.getElem?_of_mem hx
    obtain ⟨b, off, _, _, hc⟩ := h (fun e => by subst e; simp at hx)
    exact (hc i x hi).2
end

theorem cellsInt1 : Tryz.prog.cellsOf 3 = 1 := by kernel_rfl
theorem cellsStr1 : Tryz.prog.cellsOf 9 = 1 := by kernel_rfl
theorem cellsNds1 : Tryz.prog.cellsOf 26 = 1 := by kernel_rfl
theorem cellsNd1 : Tryz.prog.cellsOf 28 = 9 := by kernel_rfl
theorem cellsChs1 : Tryz.prog.cellsOf 47 = 1 := by kernel_rfl
theorem cellsChg1 : Tryz.prog.cellsOf 131 = 2 := by kernel_rfl
theorem cellsSgs1 : Tryz.prog.cellsOf 22 = 1 := by kernel_rfl
theorem cellsSgn1 : Tryz.prog.cellsOf 49 = 3 := by kernel_rfl
theorem cellsGps1 : Tryz.prog.cellsOf 23 = 1 := by kernel_rfl
theorem cellsGp1 : Tryz.prog.cellsOf 167 = 2 := by kernel_rfl
theorem cellsWv1 : Tryz.prog.cellsOf 25 = 3 := by kernel_rfl

section
variable {H : Type} {enc : TypeId × Value → H} {W : World} {base : Nat} {spare : Nat → Bool} {held : Bool}

def TreeIn (W : World) (n : Nd) : Prop := TreesAt W (Lo W.heap.size) n.KA n.kids ∧ okF n
theorem rd_node_of {fuel : Nat} (ih : ∀ m, m < fuel → ∀ {cs : List Value} {y : DataW H × List MemPlace}, DataW.trod enc Tryz.prog W base spare held m 26 cs = some y → Fit Tryz.prog 26 y.1 →
    ∃ A c l, cs = [.slice A (List.length l) c] ∧ TreesAt W (Lo W.heap.size) A l ∧ ∀ n ∈ l, okF n) {n : Nat} (hn : n ≤ fuel) {cs : List Value} {y : DataW H × List MemPlace} (h : DataW.trod enc Tryz.prog W base spare held n 28 cs = some y) (hf : Fit Tryz.prog 28 y.1) :
    ∃ a : Nd, cs = cNd a ∧ TreeIn W a := by
  obtain ⟨hl, hx⟩ := rd_struct_lt Tryz.underlying28 h hf
  rw [cellsNd1] at hl
  match cs, hl with
  | [c0, c1, c2, c3, c4, c5, c6, c7, c8], _ =>
    obtain ⟨_, _, _, h0, _⟩ := hx 0 3 0 1 rfl cellsInt1
    obtain ⟨_, _, _, h1, _⟩ := hx 1 3 1 1 rfl cellsInt1
    obtain ⟨_, _, _, h2, _⟩ := hx 2 9 2 1 rfl cellsStr1
    obtain ⟨_, _, _, h3, _⟩ := hx 3 9 3 1 rfl cellsStr1
    obtain ⟨_, _, _, h4, _⟩ := hx 4 3 4 1 rfl cellsInt1
    obtain ⟨_, _, _, h5, _⟩ := hx 5 3 5 1 rfl cellsInt1
    obtain ⟨_, _, _, h6, _⟩ := hx 6 3 6 1 rfl cellsInt1
    obtain ⟨_, _, _, h7, _⟩ := hx 7 3 7 1 rfl cellsInt1
    obtain ⟨m, _, hm, h8, f8⟩ := hx 8 26 8 1 rfl cellsNds1
    simp only [List.drop_zero, List.drop_succ_cons, List.take_succ_cons, List.take_zero] at h0 h1 h2 h3 h4 h5 h6 h7 h8
    obtain ⟨a0, e0, i0⟩ := rd_int Tryz.underlying3 h0
    obtain ⟨a1, e1, _⟩ := rd_int Tryz.underlying3 h1
    obtain ⟨a2, e2, _⟩ := rd_string Tryz.underlying9 h2
    obtain ⟨a3, e3, _⟩ := rd_string Tryz.underlying9 h3
    obtain ⟨a4, e4, i4⟩ := rd_int Tryz.underlying3 h4
    obtain ⟨a5, e5, i5⟩ := rd_int Tryz.underlying3 h5
    obtain ⟨a6, e6, i6⟩ := rd_int Tryz.underlying3 h6
    obtain ⟨a7, e7, i7⟩ := rd_int Tryz.underlying3 h7
    obtain ⟨K, kc, kl, e8, hk, hok⟩ := ih m (by omega) h8 f8
    simp only [List.cons.injEq, and_true] at e0 e1 e2 e3 e4 e5 e6 e7 e8
    subst e0 e1 e2 e3 e4 e5 e6 e7 e8
    exact ⟨.mk a0 a1 a2 a3 a4 a5 a6 a7 K kc kl, rfl, hk, (okF_eq _).2 ⟨⟨i0, i4, i5, i6, i7⟩, hok⟩⟩
set_option maxRecDepth 100000 in
theorem rd_trees : ∀ (fuel : Nat) {cs : List Value} {y : DataW H × List MemPlace}, DataW.trod enc Tryz.prog W base spare held fuel 26 cs = some y → Fit Tryz.prog 26 y.1 →
    ∃ A c l, cs = [.slice A (List.length l) c] ∧ TreesAt W (Lo W.heap.size) A l ∧ ∀ n ∈ l, okF n := by
  intro fuel
  induction fuel using Nat.strongRecOn with
  | ind fuel ih =>
  intro cs y h hf
  obtain ⟨A, c, l, rfl, hr, hw⟩ := rd_slice_lt 9 104 cNd (TreeIn W) Tryz.underlying26 cellsNd1 (by decide) (by kernel_rfl) (fun n cs y hn h hf => rd_node_of (fuel := n) (fun m hm => ih m (by omega)) (Nat.le_refl _) h hf) h hf
  obtain ⟨h1, h2⟩ := row_of hr
  exact ⟨A, c, l, rfl, .mk A l (by have : reachBytes < 2 ^ 47 := reachBytes_lt; omega) h1 fun n hn => (h2 n hn).1, fun n hn => (h2 n hn).2⟩
theorem rd_node {fuel : Nat} {cs : List Value} {y : DataW H × List MemPlace} (h : DataW.trod enc Tryz.prog W base spare held fuel 28 cs = some y) (hf : Fit Tryz.prog 28 y.1) : ∃ a : Nd, cs = cNd a ∧ TreeIn W a :=
  rd_node_of (fuel := fuel) (fun m _ => rd_trees m) (Nat.le_refl _) h hf

def ChsIn (W : World) (s : Sgn) : Prop := Row W (Lo W.heap.size) 2 cChg s.CA s.chs ∧ ∀ c ∈ s.chs, c.val.size ≤ 9223372036854775807
theorem rd_chs {fuel : Nat} {cs : List Value} {y : DataW H × List MemPlace} (h : DataW.trod enc Tryz.prog W base spare held fuel 47 cs = some y) (hf : Fit Tryz.prog 47 y.1) :
    ∃ A c l, cs = [.slice A (List.length l) c] ∧ Row W (Lo W.heap.size) 2 cChg A l ∧ ∀ x ∈ l, x.val.size ≤ 9223372036854775807 := by
  obtain ⟨A, c, l, rfl, hr, hw⟩ := rd_slice 2 24 cChg (fun x => x.val.size ≤ 9223372036854775807) Tryz.underlying47 cellsChg1 (by decide) (by kernel_rfl) (fun n cs y h hf => by
    obtain ⟨hl, hx⟩ := rd_struct Tryz.underlying131 h hf
    rw [cellsChg1] at hl
    match cs, hl with
    | [c0, c1], _ =>
      obtain ⟨_, _, h0, _⟩ := hx 0 3 0 1 rfl cellsInt1
      obtain ⟨_, _, h1, _⟩ := hx 1 9 1 1 rfl cellsStr1
      simp only [List.drop_zero, List.drop_succ_cons, List.take_succ_cons, List.take_zero] at h0 h1
      obtain ⟨a0, e0, _⟩ := rd_int Tryz.underlying3 h0
      obtain ⟨a1, e1, i1⟩ := rd_string Tryz.underlying9 h1
      simp only [List.cons.injEq, and_true] at e0 e1
      subst e0 e1
      exact ⟨⟨a0, a1⟩, rfl, by have : maxLen = 9223372036854775807 := rfl; dsimp only; omega⟩) h hf
  obtain ⟨h1, h2⟩ := row_of hr
  exact ⟨A, c, l, rfl, h1, h2⟩
theorem rd_sgs {fuel : Nat} {cs : List Value} {y : DataW H × List MemPlace} (h : DataW.trod enc Tryz.prog W base spare held fuel 22 cs = some y) (hf : Fit Tryz.prog 22 y.1) :
    ∃ A c l, cs = [.slice A (List.length l) c] ∧ SigsAt W (Lo W.heap.size) A l ∧ ∀ s ∈ l, ∀ x ∈ s.chs, x.val.size ≤ 9223372036854775807 := by
  obtain ⟨A, c, l, rfl, hr, hw⟩ := rd_slice 3 40 cSgn (ChsIn W) Tryz.underlying22 cellsSgn1 (by decide) (by kernel_rfl) (fun n cs y h hf => by
    obtain ⟨hl, hx⟩ := rd_struct Tryz.underlying49 h hf
    rw [cellsSgn1] at hl
    match cs, hl with
    | [c0, c1, c2], _ =>
      obtain ⟨_, _, h0, _⟩ := hx 0 3 0 1 rfl cellsInt1
      obtain ⟨_, _, h1, _⟩ := hx 1 3 1 1 rfl cellsInt1
      obtain ⟨_, _, h2, f2⟩ := hx 2 47 2 1 rfl cellsChs1
      simp only [List.drop_zero, List.drop_succ_cons, List.take_succ_cons, List.take_zero] at h0 h1 h2
      obtain ⟨a0, e0, _⟩ := rd_int Tryz.underlying3 h0
      obtain ⟨a1, e1, _⟩ := rd_int Tryz.underlying3 h1
      obtain ⟨CA, cc, chs, e2, r2, i2⟩ := rd_chs h2 f2
      simp only [List.cons.injEq, and_true] at e0 e1 e2
      subst e0 e1 e2
      exact ⟨⟨a0, a1, CA, cc, chs⟩, rfl, r2, i2⟩) h hf
  obtain ⟨h1, h2⟩ := row_of hr
  exact ⟨A, c, l, rfl, ⟨h1, fun s hs => (h2 s hs).1⟩, fun s hs => (h2 s hs).2⟩
theorem rd_gps {fuel : Nat} {cs : List Value} {y : DataW H × List MemPlace} (h : DataW.trod enc Tryz.prog W base spare held fuel 23 cs = some y) (hf : Fit Tryz.prog 23 y.1) :
    ∃ A c l, cs = [.slice A (List.length l) c] ∧ Row W (Lo W.heap.size) 2 cGp A l := by
  obtain ⟨A, c, l, rfl, hr, hw⟩ := rd_slice 2 16 cGp (fun _ => True) Tryz.underlying23 cellsGp1 (by decide) (by kernel_rfl) (fun n cs y h hf => by
    obtain ⟨hl, hx⟩ := rd_struct Tryz.underlying167 h hf
    rw [cellsGp1] at hl
    match cs, hl with
    | [c0, c1], _ =>
      obtain ⟨_, _, h0, _⟩ := hx 0 3 0 1 rfl cellsInt1
      obtain ⟨_, _, h1, _⟩ := hx 1 3 1 1 rfl cellsInt1
      simp only [List.drop_zero, List.drop_succ_cons, List.take_succ_cons, List.take_zero] at h0 h1
      obtain ⟨a0, e0, _⟩ := rd_int Tryz.underlying3 h0
      obtain ⟨a1, e1, _⟩ := rd_int Tryz.underlying3 h1
      simp only [List.cons.injEq, and_true] at e0 e1
      subst e0 e1
      exact ⟨(a0, a1), rfl, trivial⟩) h hf
  exact ⟨A, c, l, rfl, (row_of hr).1⟩
/-- a wave that was read -/
def WaveIn (W : World) (v : Wv) : Prop := SigsAt W (Lo W.heap.size) v.A v.sigs ∧ (∀ s ∈ v.sigs, ∀ x ∈ s.chs, x.val.size ≤ 9223372036854775807) ∧ ∃ gs : List (Int × Int), v.gn = gs.length ∧ Row W (Lo W.heap.size) 2 cGp v.G gs
theorem rd_wave {fuel : Nat} {cs : List Value} {y : DataW H × List MemPlace} (h : DataW.trod enc Tryz.prog W base spare held fuel 25 cs = some y) (hf : Fit Tryz.prog 25 y.1) : ∃ v : Wv, cs = cWv v ∧ WaveIn W v := by
  obtain ⟨hl, hx⟩ := rd_struct Tryz.underlying25 h hf
  rw [cellsWv1] at hl
  match cs, hl with
  | [c0, c1, c2], _ =>
    obtain ⟨_, _, h0, f0⟩ := hx 0 22 0 1 rfl cellsSgs1
    obtain ⟨_, _, h1, f1⟩ := hx 1 23 1 1 rfl cellsGps1
    obtain ⟨_, _, h2, _⟩ := hx 2 3 2 1 rfl cellsInt1
    simp only [List.drop_zero, List.drop_succ_cons, List.take_succ_cons, List.take_zero] at h0 h1 h2
    obtain ⟨A, cA, sigs, e0, r0, i0⟩ := rd_sgs h0 f0
    obtain ⟨G, cG, gs, e1, r1⟩ := rd_gps h1 f1
    obtain ⟨fin, e2, _⟩ := rd_int Tryz.underlying3 h2
    simp only [List.cons.injEq, and_true] at e0 e1 e2
    subst e0 e1 e2
    exact ⟨⟨A, cA, sigs, G, gs.length, cG, fin⟩, rfl, r0, i0, gs, rfl, r1⟩
end

end Go.Proofs.YtaaplalfggofiaaGreatDoor

/-
  event.Is and wavestoreref53.Is: the kinds of events.
-/
namespace Go.Proofs.YtaaplalfggofiaaGreatDoor
open Go.RowKit

def eq1 (a : ByteArray) (c : UInt8) : Bool := a.toList == [c]
def unkB (a : ByteArray) : Bool := eq1 a 120 || eq1 a 122
/-- two values are an event of a kind -/
def isEv (kind : Int) (a b : ByteArray) : Bool :=
  if kind = 37 then eq1 a 48 && eq1 b 49
  else if kind = 38 then eq1 a 49 && eq1 b 48
  else if kind = 39 then eq1 a 48 && (eq1 b 49 || unkB b) || unkB a && eq1 b 49
  else if kind = 40 then eq1 a 49 && (eq1 b 48 || unkB b) || unkB a && eq1 b 48
  else if kind = 41 then a.toList != b.toList else false
theorem eq1_self {a : ByteArray} {c : UInt8} (h : eq1 a c = true) : a = ⟨#[c]⟩ := by
  unfold eq1 at h
  rw [beq_iff_eq, ByteArray.toList_eq] at h
  exact ByteArray.ext (Array.toList_inj.1 h)
theorem eq1_lit (x c : UInt8) : eq1 ⟨#[x]⟩ c = (x == c) := by
  unfold eq1
  rw [ByteArray.toList_eq]
  simp
theorem str_cls (a : ByteArray) : a = ⟨#[48]⟩ ∨ a = ⟨#[49]⟩ ∨ a = ⟨#[120]⟩ ∨ a = ⟨#[122]⟩ ∨ (((a.toList == [48]) = false ∧ (a.toList == [49]) = false ∧ (a.toList == [120]) = false ∧ (a.toList == [122]) = false) ∧ eq1 a 48 = false ∧ eq1 a 49 = false ∧ eq1 a 120 = false ∧ eq1 a 122 = false) := by
  cases h0 : eq1 a 48
  · cases h1 : eq1 a 49
    · cases h2 : eq1 a 120
      · cases h3 : eq1 a 122
        · exact .inr (.inr (.inr (.inr ⟨⟨h0, h1, h2, h3⟩, rfl, rfl, rfl, rfl⟩)))
        · exact .inr (.inr (.inr (.inl (eq1_self h3))))
      · exact .inr (.inr (.inl (eq1_self h2)))
    · exact .inr (.inl (eq1_self h1))
  · exact .inl (eq1_self h0)

set_option maxRecDepth 100000 in
set_option maxHeartbeats 2000000 in
theorem unkE (a : ByteArray) (w : World) : Calls Tryz.prog 317 #[.string a] w fun e w' => e = .returned (.bool (unkB a)) ∧ w = w' := by
  go_enter Tryz.func317, Tryz.ntmps317
  go_wp2_with fail
  all_goals
    go_ret
    exact ⟨by simp_all [unkB, eq1], rfl⟩

end Go.Proofs.YtaaplalfggofiaaGreatDoor
