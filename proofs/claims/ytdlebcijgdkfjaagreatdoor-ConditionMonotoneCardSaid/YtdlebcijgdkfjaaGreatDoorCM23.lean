/-
  Several texts in one: Reads51, Where, COf, CTruthP, OfM. Each says at its head what it holds.
-/
import Derived.Test.YtdlebcijgdkfjaaGreatDoorCM2
import Derived.Test.YtdlebcijgdkfjaaGreatDoorCM22
import Derived.Test.YtdlebcijgdkfjaaGreatDoorCM19
import Derived.Test.YtdlebcijgdkfjaaGreatDoorCM17
import Derived.Test.YtdlebcijgdkfjaaGreatDoorCM20
import Derived.Test.YtdlebcijgdkfjaaGreatDoorCM7
import Derived.Test.YtdlebcijgdkfjaaGreatDoorCM8
import Derived.Test.YtdlebcijgdkfjaaGreatDoorCM15
import Derived.Test.YtdlebcijgdkfjaaGreatDoorCM11
import Derived.Test.YtdlebcijgdkfjaaGreatDoorCM14
import Derived.Test.YtdlebcijgdkfjaaGreatDoorCM16
import Derived.Deep.RegionHeld3
import Derived.Outline

/-
  Waves and trees of nodes, read out of the arguments.
-/
namespace Go.Proofs.YtdlebcijgdkfjaaGreatDoor
open Go.ChangeShapes Go.WideShapes Go.ChangeAt Go.RowKit Go.Deep

section
variable {H : Type} {enc : TypeId × Value → H} {P : Program} {W : World} {base : Nat} {spare : Nat → Bool} {held : Bool}
theorem rd_slice_lt {α : Type} {t e : TypeId} (size bytes : Nat) (cells : α → List Value) (hd : α → Prop) (ht : P.underlying t = some (.slice e)) (hs : P.cellsOf e = size) (hpos : 0 < size) (hby : P.bytesOf e = bytes) {fuel : Nat}
    (rd : ∀ n cs y, n < fuel → DataW.trod enc P W base spare held n e cs = some y → Fit P e y.1 → ∃ a, cs = cells a ∧ hd a)
    {cs : List Value} {y : DataW H × List MemPlace} (h : DataW.trod enc P W base spare held fuel t cs = some y) (hf : Fit P t y.1) :
    ∃ (A : Option Addr) (c : Nat) (xs : List α), cs = [.slice A xs.length c] ∧ RowAt W (fun b => b < W.heap.size) size cells hd A xs ∧ xs.length * bytes ≤ reachBytes := by
  rcases DataW.trod_slice ht h with ⟨rfl, rfl⟩ | ⟨a, len, cap, elems, rest, n, hfu, rfl, rfl, hb, hl, hc, hel, hi, _⟩
  · exact ⟨none, 0, [], rfl, fun h => absurd rfl h, by simp⟩
  · have hfit : ∀ i (h : i < elems.length), Fit P e elems[i].1 := fun i h m hm => hf m (by
      simp only [DataW.weights, ht, List.mem_cons, List.mem_append]
      exact .inr (.inl (weightsAll_mem (List.mem_map.2 ⟨elems[i], List.getElem_mem h, rfl⟩) m hm)))
    have hrow : ∀ i, i < len → ∃ x : α, (∀ j, j < size → W.cell? ((a.add (i * size)).add j) = (cells x)[j]?) ∧ hd x ∧ (cells x).length = size := fun i hlt => by
      have h1 := hi i hlt
      have hlt' : i < elems.length := by omega
      rw [List.getElem?_eq_getElem hlt', Option.bind_eq_some_iff] at h1
      obtain ⟨cs, hcs, htr⟩ := h1
      obtain ⟨x, rfl, hx⟩ := rd n cs _ (by omega) htr (hfit i hlt')
      obtain ⟨_, hcl, hat⟩ := World.cells?_some hcs
      rw [hs] at hcl hat
      exact ⟨x, hat, hx, hcl⟩
    obtain ⟨xs, hxl, hx⟩ := pick_list _ len hrow
    refine ⟨some a, cap, xs, by rw [hxl], fun hne => ?_, ?_⟩
    · have hp : 0 < xs.length := List.length_pos_iff.2 hne
      obtain ⟨b, off, spot⟩ := a
      have h0 : W.cell? ((Addr.add ⟨b, off, spot⟩ (0 * size)).add 0) = (cells xs[0])[0]? := (hx 0 _ (List.getElem?_eq_getElem hp)).1 0 hpos
      have hl0 := (hx 0 _ (List.getElem?_eq_getElem hp)).2.2
      rw [List.getElem?_eq_getElem (by omega)] at h0
      have hspot : spot = none := by simpa [Addr.add] using World.cell?_spot h0
      subst hspot
      have hblk := World.block_lt_of_cell? _ _ h0
      rw [addr_plus, addr_plus] at hblk
      refine ⟨b, off, rfl, hblk, fun i x hi => ⟨fun j hj => ?_, (hx i x hi).2.1⟩⟩
      have := (hx i x hi).1 j hj
      rwa [addr_plus, addr_plus] at this
    · have := hf ((elems.length + rest.length) * P.bytesOf e) (by simp [DataW.weights, ht])
      rw [hby] at this
      have h2 : xs.length * bytes ≤ (elems.length + rest.length) * bytes := Nat.mul_le_mul_right _ (by omega)
      omega
theorem rd_struct_lt {t : TypeId} {fs : Array Field} (ht : P.underlying t = some (.struct fs)) {n : Nat} {cs : List Value} {y : DataW H × List MemPlace} (h : DataW.trod enc P W base spare held n t cs = some y) (hf : Fit P t y.1) :
    cs.length = P.cellsOf t ∧ ∀ (i : Nat) (ft : TypeId) (off k : Nat), (fs[i]?.map fun f => (f.type, f.offset)) = some (ft, off) → P.cellsOf ft = k → ∃ m z, m < n ∧ DataW.trod enc P W base spare held m ft ((cs.drop off).take k) = some z ∧ Fit P ft z.1 := by
  obtain ⟨xs, m, hfu, rfl, hl, hxl, hx⟩ := DataW.trod_struct ht h
  refine ⟨hl, fun i ft off k hi hk => ?_⟩
  subst hk
  rw [Option.map_eq_some_iff] at hi
  obtain ⟨f, hi, e⟩ := hi
  injection e with e1 e2
  subst e1 e2
  have hlt : i < fs.size := (Array.getElem?_eq_some_iff.1 hi).1
  have h1 := hx i f hi
  rw [List.getElem?_eq_getElem (by omega)] at h1
  refine ⟨m, _, by omega, h1, fun k hk => hf k ?_⟩
  simp only [DataW.weights, ht]
  refine DataW.weights_mem_each (j := i) (t := f.type) (d := xs[i].1) ?_ ?_ k hk
  · rw [List.getElem?_map, Array.getElem?_toList, hi]; rfl
  · rw [List.getElem?_map, List.getElem?_eq_getElem (by omega)]; rfl
/-- the row that a reader gives -/
theorem row_of {α : Type} {size : Nat} {cells : α → List Value} {hd : α → Prop} {A : Option Addr} {xs : List α} (h : RowAt W (fun b => b < W.heap.size) size cells hd A xs) : Row W (Lo W.heap.size) size cells A xs ∧ ∀ x ∈ xs, hd x := by
  refine ⟨fun hne => ?_, fun x hx => ?_⟩
  · obtain ⟨b, off, e, hb, hc⟩ := h hne
    exact ⟨b, off, e, hb, fun i x hi j hj => (hc i x hi).1 j hj⟩
  · obtain ⟨i, hi⟩ := List.getElem?_of_mem hx
    obtain ⟨b, off, _, _, hc⟩ := h (fun e => by subst e; simp at hx)
    exact (hc i x hi).2
end

theorem cellsInt1 : Tryz.prog.cellsOf 3 = 1 := by kernel_rfl
theorem cellsStr1 : Tryz.prog.cellsOf 9 = 1 := by kernel_rfl
theorem cellsNds1 : Tryz.prog.cellsOf 30 = 1 := by kernel_rfl
theorem cellsNd1 : Tryz.prog.cellsOf 32 = 9 := by kernel_rfl
theorem cellsChs1 : Tryz.prog.cellsOf 58 = 1 := by kernel_rfl
theorem cellsChg1 : Tryz.prog.cellsOf 97 = 2 := by kernel_rfl
theorem cellsSgs1 : Tryz.prog.cellsOf 26 = 1 := by kernel_rfl
theorem cellsSgn1 : Tryz.prog.cellsOf 60 = 3 := by kernel_rfl
theorem cellsGps1 : Tryz.prog.cellsOf 27 = 1 := by kernel_rfl
theorem cellsGp1 : Tryz.prog.cellsOf 137 = 2 := by kernel_rfl
theorem cellsWv1 : Tryz.prog.cellsOf 29 = 3 := by kernel_rfl

section
variable {H : Type} {enc : TypeId × Value → H} {W : World} {base : Nat} {spare : Nat → Bool} {held : Bool}

def TreeIn (W : World) (n : Nd) : Prop := TreesAt W (Lo W.heap.size) n.KA n.kids ∧ okF n
theorem rd_node_of {fuel : Nat} (ih : ∀ m, m < fuel → ∀ {cs : List Value} {y : DataW H × List MemPlace}, DataW.trod enc Tryz.prog W base spare held m 30 cs = some y → Fit Tryz.prog 30 y.1 →
    ∃ A c l, cs = [.slice A (List.length l) c] ∧ TreesAt W (Lo W.heap.size) A l ∧ ∀ n ∈ l, okF n) {n : Nat} (hn : n ≤ fuel) {cs : List Value} {y : DataW H × List MemPlace} (h : DataW.trod enc Tryz.prog W base spare held n 32 cs = some y) (hf : Fit Tryz.prog 32 y.1) :
    ∃ a : Nd, cs = cNd a ∧ TreeIn W a := by
  obtain ⟨hl, hx⟩ := rd_struct_lt Tryz.underlying32 h hf
  rw [cellsNd1] at hl
  match cs, hl with
  | [c0, c1, c2, c3, c4, c5, c6, c7, c8], _ =>
    obtain ⟨_, _, _, h0, _⟩ := hx 0 3 0 1 rfl cellsInt1
    obtain ⟨_, _, _, h1, _⟩ := hx 1 3 1 1 rfl cellsInt1
    obtain ⟨_, _, _, h2, _⟩ := hx 2 9 2 1 rfl cellsStr1
    obtain ⟨_, _, _, h3, _⟩ := hx 3 9 3 1 rfl cellsStr1
    obtain ⟨_, _, _, h4, _⟩ := hx 4 3 4 1 rfl cellsInt1
    obtain ⟨_, _, _, h5, _⟩ := hx 5 3 5 1 rfl cellsInt1
    obtain ⟨_, _, _, h6, _⟩ := hx 6 3 6 1 rfl cellsInt1
    obtain ⟨_, _, _, h7, _⟩ := hx 7 3 7 1 rfl cellsInt1
    obtain ⟨m, _, hm, h8, f8⟩ := hx 8 30 8 1 rfl cellsNds1
    simp only [List.drop_zero, List.drop_succ_cons, List.take_succ_cons, List.take_zero] at h0 h1 h2 h3 h4 h5 h6 h7 h8
    obtain ⟨a0, e0, i0⟩ := rd_int Tryz.underlying3 h0
    obtain ⟨a1, e1, _⟩ := rd_int Tryz.underlying3 h1
    obtain ⟨a2, e2, _⟩ := rd_string Tryz.underlying9 h2
    obtain ⟨a3, e3, _⟩ := rd_string Tryz.underlying9 h3
    obtain ⟨a4, e4, i4⟩ := rd_int Tryz.underlying3 h4
    obtain ⟨a5, e5, i5⟩ := rd_int Tryz.underlying3 h5
    obtain ⟨a6, e6, i6⟩ := rd_int Tryz.underlying3 h6
    obtain ⟨a7, e7, i7⟩ := rd_int Tryz.underlying3 h7
    obtain ⟨K, kc, kl, e8, hk, hok⟩ := ih m (by omega) h8 f8
    simp only [List.cons.injEq, and_true] at e0 e1 e2 e3 e4 e5 e6 e7 e8
    subst e0 e1 e2 e3 e4 e5 e6 e7 e8
    exact ⟨.mk a0 a1 a2 a3 a4 a5 a6 a7 K kc kl, rfl, hk, (okF_eq _).2 ⟨⟨i0, i4, i5, i6, i7⟩, hok⟩⟩
set_option maxRecDepth 100000 in
theorem rd_trees : ∀ (fuel : Nat) {cs : List Value} {y : DataW H × List MemPlace}, DataW.trod enc Tryz.prog W base spare held fuel 30 cs = some y → Fit Tryz.prog 30 y.1 →
    ∃ A c l, cs = [.slice A (List.length l) c] ∧ TreesAt W (Lo W.heap.size) A l ∧ ∀ n ∈ l, okF n := by
  intro fuel
  induction fuel using Nat.strongRecOn with
  | ind fuel ih =>
  intro cs y h hf
  obtain ⟨A, c, l, rfl, hr, hw⟩ := rd_slice_lt 9 104 cNd (TreeIn W) Tryz.underlying30 cellsNd1 (by decide) (by kernel_rfl) (fun n cs y hn h hf => rd_node_of (fuel := n) (fun m hm => ih m (by omega)) (Nat.le_refl _) h hf) h hf
  obtain ⟨h1, h2⟩ := row_of hr
  exact ⟨A, c, l, rfl, .mk A l (by have : reachBytes < 2 ^ 47 := reachBytes_lt; omega) h1 fun n hn => (h2 n hn).1, fun n hn => (h2 n hn).2⟩
theorem rd_node {fuel : Nat} {cs : List Value} {y : DataW H × List MemPlace} (h : DataW.trod enc Tryz.prog W base spare held fuel 32 cs = some y) (hf : Fit Tryz.prog 32 y.1) : ∃ a : Nd, cs = cNd a ∧ TreeIn W a :=
  rd_node_of (fuel := fuel) (fun m _ => rd_trees m) (Nat.le_refl _) h hf

def ChsIn (W : World) (s : Sgn) : Prop := Row W (Lo W.heap.size) 2 cChg s.CA s.chs ∧ ∀ c ∈ s.chs, c.val.size ≤ 9223372036854775807
theorem rd_chs {fuel : Nat} {cs : List Value} {y : DataW H × List MemPlace} (h : DataW.trod enc Tryz.prog W base spare held fuel 58 cs = some y) (hf : Fit Tryz.prog 58 y.1) :
    ∃ A c l, cs = [.slice A (List.length l) c] ∧ Row W (Lo W.heap.size) 2 cChg A l ∧ ∀ x ∈ l, x.val.size ≤ 9223372036854775807 := by
  obtain ⟨A, c, l, rfl, hr, hw⟩ := rd_slice 2 24 cChg (fun x => x.val.size ≤ 9223372036854775807) Tryz.underlying58 cellsChg1 (by decide) (by kernel_rfl) (fun n cs y h hf => by
    obtain ⟨hl, hx⟩ := rd_struct Tryz.underlying97 h hf
    rw [cellsChg1] at hl
    match cs, hl with
    | [c0, c1], _ =>
      obtain ⟨_, _, h0, _⟩ := hx 0 3 0 1 rfl cellsInt1
      obtain ⟨_, _, h1, _⟩ := hx 1 9 1 1 rfl cellsStr1
      simp only [List.drop_zero, List.drop_succ_cons, List.take_succ_cons, List.take_zero] at h0 h1
      obtain ⟨a0, e0, _⟩ := rd_int Tryz.underlying3 h0
      obtain ⟨a1, e1, i1⟩ := rd_string Tryz.underlying9 h1
      simp only [List.cons.injEq, and_true] at e0 e1
      subst e0 e1
      exact ⟨⟨a0, a1⟩, rfl, by have : maxLen = 9223372036854775807 := rfl; dsimp only; omega⟩) h hf
  obtain ⟨h1, h2⟩ := row_of hr
  exact ⟨A, c, l, rfl, h1, h2⟩
theorem rd_sgs {fuel : Nat} {cs : List Value} {y : DataW H × List MemPlace} (h : DataW.trod enc Tryz.prog W base spare held fuel 26 cs = some y) (hf : Fit Tryz.prog 26 y.1) :
    ∃ A c l, cs = [.slice A (List.length l) c] ∧ SigsAt W (Lo W.heap.size) A l ∧ ∀ s ∈ l, ∀ x ∈ s.chs, x.val.size ≤ 9223372036854775807 := by
  obtain ⟨A, c, l, rfl, hr, hw⟩ := rd_slice 3 40 cSgn (ChsIn W) Tryz.underlying26 cellsSgn1 (by decide) (by kernel_rfl) (fun n cs y h hf => by
    obtain ⟨hl, hx⟩ := rd_struct Tryz.underlying60 h hf
    rw [cellsSgn1] at hl
    match cs, hl with
    | [c0, c1, c2], _ =>
      obtain ⟨_, _, h0, _⟩ := hx 0 3 0 1 rfl cellsInt1
      obtain ⟨_, _, h1, _⟩ := hx 1 3 1 1 rfl cellsInt1
      obtain ⟨_, _, h2, f2⟩ := hx 2 58 2 1 rfl cellsChs1
      simp only [List.drop_zero, List.drop_succ_cons, List.take_succ_cons, List.take_zero] at h0 h1 h2
      obtain ⟨a0, e0, _⟩ := rd_int Tryz.underlying3 h0
      obtain ⟨a1, e1, _⟩ := rd_int Tryz.underlying3 h1
      obtain ⟨CA, cc, chs, e2, r2, i2⟩ := rd_chs h2 f2
      simp only [List.cons.injEq, and_true] at e0 e1 e2
      subst e0 e1 e2
      exact ⟨⟨a0, a1, CA, cc, chs⟩, rfl, r2, i2⟩) h hf
  obtain ⟨h1, h2⟩ := row_of hr
  exact ⟨A, c, l, rfl, ⟨h1, fun s hs => (h2 s hs).1⟩, fun s hs => (h2 s hs).2⟩
theorem rd_gps {fuel : Nat} {cs : List Value} {y : DataW H × List MemPlace} (h : DataW.trod enc Tryz.prog W base spare held fuel 27 cs = some y) (hf : Fit Tryz.prog 27 y.1) :
    ∃ A c l, cs = [.slice A (List.length l) c] ∧ Row W (Lo W.heap.size) 2 cGp A l := by
  obtain ⟨A, c, l, rfl, hr, hw⟩ := rd_slice 2 16 cGp (fun _ => True) Tryz.underlying27 cellsGp1 (by decide) (by kernel_rfl) (fun n cs y h hf => by
    obtain ⟨hl, hx⟩ := rd_struct Tryz.underlying137 h hf
    rw [cellsGp1] at hl
    match cs, hl with
    | [c0, c1], _ =>
      obtain ⟨_, _, h0, _⟩ := hx 0 3 0 1 rfl cellsInt1
      obtain ⟨_, _, h1, _⟩ := hx 1 3 1 1 rfl cellsInt1
      simp only [List.drop_zero, List.drop_succ_cons, List.take_succ_cons, List.take_zero] at h0 h1
      obtain ⟨a0, e0, _⟩ := rd_int Tryz.underlying3 h0
      obtain ⟨a1, e1, _⟩ := rd_int Tryz.underlying3 h1
      simp only [List.cons.injEq, and_true] at e0 e1
      subst e0 e1
      exact ⟨(a0, a1), rfl, trivial⟩) h hf
  exact ⟨A, c, l, rfl, (row_of hr).1⟩
/-- a wave that was read -/
def WaveIn (W : World) (v : Wv) : Prop := SigsAt W (Lo W.heap.size) v.A v.sigs ∧ (∀ s ∈ v.sigs, ∀ x ∈ s.chs, x.val.size ≤ 9223372036854775807) ∧ ∃ gs : List (Int × Int), v.gn = gs.length ∧ Row W (Lo W.heap.size) 2 cGp v.G gs
theorem rd_wave {fuel : Nat} {cs : List Value} {y : DataW H × List MemPlace} (h : DataW.trod enc Tryz.prog W base spare held fuel 29 cs = some y) (hf : Fit Tryz.prog 29 y.1) : ∃ v : Wv, cs = cWv v ∧ WaveIn W v := by
  obtain ⟨hl, hx⟩ := rd_struct Tryz.underlying29 h hf
  rw [cellsWv1] at hl
  match cs, hl with
  | [c0, c1, c2], _ =>
    obtain ⟨_, _, h0, f0⟩ := hx 0 26 0 1 rfl cellsSgs1
    obtain ⟨_, _, h1, f1⟩ := hx 1 27 1 1 rfl cellsGps1
    obtain ⟨_, _, h2, _⟩ := hx 2 3 2 1 rfl cellsInt1
    simp only [List.drop_zero, List.drop_succ_cons, List.take_succ_cons, List.take_zero] at h0 h1 h2
    obtain ⟨A, cA, sigs, e0, r0, i0⟩ := rd_sgs h0 f0
    obtain ⟨G, cG, gs, e1, r1⟩ := rd_gps h1 f1
    obtain ⟨fin, e2, _⟩ := rd_int Tryz.underlying3 h2
    simp only [List.cons.injEq, and_true] at e0 e1 e2
    subst e0 e1 e2
    exact ⟨⟨A, cA, sigs, G, gs.length, cG, fin⟩, rfl, r0, i0, gs, rfl, r1⟩
end

end Go.Proofs.YtdlebcijgdkfjaaGreatDoor

/-
  runs.Where at one value; condition.Of.
-/
namespace Go.Proofs.YtdlebcijgdkfjaaGreatDoor
open Go.RowKit

set_option maxRecDepth 100000 in
theorem idxS_any (vb vo vc : Nat) (u s : ByteArray) (w : World) (hc : w.cell? ⟨vb, vo, none⟩ = some (.string u)) :
    Calls Tryz.prog 205 #[.slice (some ⟨vb, vo, none⟩) 1 vc, .string s] w fun e w' => (∃ n : Int, e = .returned (.int .i64 n) ∧ decide (0 ≤ n) = (s.toList == u.toList)) ∧ w = w' := by
  go_enter Tryz.func205, Tryz.ntmps205
  go_wp2_with fail
  go_loopw [8] (fun i wr => ∃ k : Nat, k ≤ 1 ∧ i = .int .i64 (k : Int) ∧ w = wr ∧ (k = 1 → (s.toList == u.toList) = false)) (fun i _ => 1 - (intOf i).toNat)
  case atStart => exact ⟨0, by omega, rfl, rfl, fun h => by cases h⟩
  case round =>
    obtain ⟨k, hk, rfl, rfl, hno⟩ := hrel
    have HNO := hide hno
    clear hno
    rcases Nat.lt_or_ge k 1 with h | h
    · have h0 : k = 0 := by omega
      subst h0
      cases he : (s.toList == u.toList) with
      | true =>
        have HE := hide he
        go_wp2_with fail
        go_ret
        exact ⟨⟨0, rfl, by rw [HE.out]; rfl⟩, rfl⟩
      | false =>
        have HE := hide he
        go_wp2_with fail
        exact ⟨⟨1, by omega, rfl, trivial, fun _ => trivial⟩, by simp [intOf]⟩
    · have h1 : k = 1 := by omega
      subst h1
      have HE := hide (HNO.out rfl)
      go_wp2_with fail
      go_ret
      exact ⟨⟨-1, rfl, by rw [HE.out]; rfl⟩, rfl⟩
theorem contS_any (vb vo vc : Nat) (u s : ByteArray) (w : World) (hc : w.cell? ⟨vb, vo, none⟩ = some (.string u)) :
    Calls Tryz.prog 160 #[.slice (some ⟨vb, vo, none⟩) 1 vc, .string s] w fun e w' => e = .returned (.bool (s.toList == u.toList)) ∧ w = w' := by
  go_enter Tryz.func160, Tryz.ntmps160
  go_wp2_with fail
  refine (idxS_any vb vo vc u s w hc).mono ?_
  rintro e w' ⟨⟨n, rfl, hn⟩, rfl⟩
  have HN := hide hn
  clear hn
  go_wp2_with fail
  go_ret
  exact ⟨by rw [← HN.out]; rfl, rfl⟩

/-- the spans of one value -/
def ivW (u : ByteArray) (l : List Spn) : List Iv := l.flatMap fun x => if (x.v.toList == u.toList) then [(x.f, x.t)] else []
theorem ivW_snoc (u : ByteArray) (l : List Spn) (x : Spn) : ivW u (l ++ [x]) = ivW u l ++ if (x.v.toList == u.toList) then [(x.f, x.t)] else [] := by unfold ivW; rw [List.flatMap_append]; simp
theorem ivW_len (u : ByteArray) : ∀ l : List Spn, (ivW u l).length ≤ l.length
  | [] => Nat.le_refl _
  | x :: l => by
    have := ivW_len u l
    have e : ivW u (x :: l) = (if (x.v.toList == u.toList) then [(x.f, x.t)] else []) ++ ivW u l := by unfold ivW; rw [List.flatMap_cons]
    rw [e, List.length_append, List.length_cons]
    split <;> simp <;> omega
theorem str_beq {v u : ByteArray} : (v.toList == u.toList) = true ↔ v = u := by
  rw [beq_iff_eq, ByteArray.toList_eq, ByteArray.toList_eq]
  exact ⟨fun e => ByteArray.ext (Array.toList_inj.1 e), fun e => by rw [e]⟩
theorem ivW_mem {g : Int → ByteArray} {a z : Int} {l : List Spn} (hs : Spans g a z l) (h0 : 0 ≤ a) (hz : z ≤ 1099511627776) (u : ByteArray) (t : Int) : Mem (ivW u l) t ↔ a ≤ t ∧ t ≤ z ∧ g t = u := by
  unfold Mem ivW
  constructor
  · rintro ⟨h1, h2, x, hx, h3, h4⟩
    obtain ⟨y, hy, hxy⟩ := List.mem_flatMap.1 hx
    split at hxy
    · rename_i hv
      simp at hxy
      subst hxy
      obtain ⟨k1, k2, k3, k4⟩ := hs.mem hy
      have h3 : y.f ≤ t := h3
      have h4 : t ≤ y.t := h4
      exact ⟨by omega, by omega, (k4 t h3 h4).trans (str_beq.1 hv)⟩
    · cases hxy
  · rintro ⟨h1, h2, h3⟩
    obtain ⟨x, hx, k1, k2⟩ := hs.covers h1 h2
    refine ⟨by omega, by omega, (x.f, x.t), List.mem_flatMap.2 ⟨x, hx, ?_⟩, k1, k2⟩
    rw [if_pos (str_beq.2 (((hs.mem hx).2.2.2 t k1 k2).symm.trans h3))]
    simp

def WhrRel (u : ByteArray) (l : List Spn) (w : World) (out i : Value) (wr : World) : Prop :=
  ∃ (k : Nat) (A : Option Addr) (c : Nat) (ys : List Iv), k ≤ l.length ∧ i = .int .i64 (k : Int) ∧ out = .slice A ys.length c ∧ ys = ivW u (l.take k) ∧ OwnIv wr w.heap.size A c ys ∧ Below w.heap.size w wr

set_option maxRecDepth 100000 in
set_option maxHeartbeats 4000000 in
theorem where_any (g : Int → ByteArray) (a z : Int) (A : Option Addr) (c : Nat) (l : List Spn) (vb vo vc : Nat) (u : ByteArray) (w : World) (h : Row w (Lo w.heap.size) 3 encSp A l) (hs : Spans g a z l) (h0 : 0 ≤ a) (hz : z ≤ 1099511627776) (hl : l.length ≤ 1000000)
    (hu : w.cell? ⟨vb, vo, none⟩ = some (.string u)) :
    Calls Tryz.prog 107 #[.slice A l.length c, .slice (some ⟨vb, vo, none⟩) 1 vc] w (RetIvs w fun t => a ≤ t ∧ t ≤ z ∧ g t = u) := by
  have HV := hide (valid_sp g a z A c l w h hs h0 hz hl)
  have HMEM := hide (fun t => ivW_mem hs h0 hz u t)
  obtain ⟨b, off, rfl, hb, hc⟩ := h.sp_at hs.ne
  have HC := hide hc
  have HB := hide hb
  have HU := hide hu
  clear h hs hc hb hu
  go_enter Tryz.func107, Tryz.ntmps107
  go_upto_region 5 with (go_at_call 155; refine HV.out.mono ?_; rintro e w1 ⟨rfl, hb1⟩; have HB1 := hide hb1; clear hb1)
  go_loopw [5, 13] (fun out i wr => WhrRel u l w out i wr) (fun _ i _ => l.length - (intOf i).toNat)
  case atStart => exact ⟨0, none, 0, [], Nat.zero_le _, rfl, rfl, rfl, OwnIv.nil _ _, HB1.out⟩
  case round =>
    obtain ⟨V, rfl⟩ : ∃ w2 : World, w2 = wr := ⟨_, rfl⟩
    obtain ⟨k, A2, c2, ys, hk, rfl, rfl, hys, hown, hbr⟩ := hrel
    by_cases hlt : k < l.length
    · have hx : l[k]? = some l[k] := List.getElem?_eq_getElem hlt
      obtain ⟨s0, s1, s2⟩ := (HC.out k _ hx).stay (hbr.block _ HB.out)
      have HTK := hide (show ivW u (l.take (k + 1)) = ys ++ if (l[k].v.toList == u.toList) then [(l[k].f, l[k].t)] else [] by rw [List.take_succ_eq_append_getElem hlt, ivW_snoc, hys])
      have hyl : ys.length ≤ k := by
        rw [hys]
        have := ivW_len u (l.take k)
        rw [List.length_take] at this
        omega
      generalize l[k] = x at *
      obtain ⟨W1, hW1⟩ : ∃ W1, V.alloc (.cells #[.int .i64 x.f, .int .i64 x.t, .string x.v] 100) = W1 := ⟨_, rfl⟩
      have g1 := heap_alloc_new V (.cells #[.int .i64 x.f, .int .i64 x.t, .string x.v] 100)
      have hb1 : Below V.heap.size V W1 := by rw [← hW1]; exact (Below.refl _ _).alloc (Nat.le_refl _) _
      have hb2 := bstep hbr hb1
      have hu1 := cell_later hb2 HU.out
      have HO1 := hide (hown.below hb1 (Nat.le_refl _))
      have HW1 := hide hW1
      have HB2 := hide hb2
      have hws := hb2.size
      rw [hW1] at g1
      clear hx hys hW1 hb1 hb2 hown hbr
      have hcs := contS_any vb vo vc u x.v W1 hu1
      have HCS := hide hcs
      clear hcs hu1
      go_upto_region 7 with (fail)
      rw [HW1.out]
      clear HW1 s0 s1 s2
      obtain ⟨z0, z1, z2⟩ := sp_box g1
      clear g1
      cases hv : (x.v.toList == u.toList) with
      | true =>
        rw [hv] at HCS HTK
        have HT2 := hide (show ivW u (l.take (k + 1)) = ys ++ [(x.f, x.t)] by rw [HTK.out, if_pos rfl])
        clear HTK hv
        go_wp2_with first
          | (go_at_call 160; refine HCS.out.mono ?_; rintro e w3 ⟨rfl, rfl⟩)
          | (at_builtin; refine append_iv rfl _ _ rfl w.heap.size A2 c2 ys _ rfl rfl x.f x.t _ rfl _ rfl (by simp) HO1.out (by omega) (by omega) ?_; intro g3 c3 w3 row3 hown3 hg3b hgr3 hr3)
        refine ⟨⟨k + 1, some ⟨g3, 0, none⟩, c3, ys ++ [(x.f, x.t)], hlt, by go_num, by rw [List.length_append]; rfl, HT2.out.symm, hown3, ?_⟩, by simp [intOf]; omega⟩
        exact (HB2.out.alloc hws _).grown hgr3 (by simp; omega) hr3
      | false =>
        rw [hv] at HCS HTK
        have HT2 := hide (show ivW u (l.take (k + 1)) = ys by rw [HTK.out, if_neg (by decide), List.append_nil])
        clear HTK hv
        go_wp2_with (go_at_call 160; refine HCS.out.mono ?_; rintro e w3 ⟨rfl, rfl⟩)
        exact ⟨⟨k + 1, A2, c2, ys, hlt, by go_num, rfl, HT2.out.symm, HO1.out, HB2.out⟩, by simp [intOf]; omega⟩
    · have hke : k = l.length := by omega
      rw [hke, List.take_length] at hys
      have hyl := ivW_len u l
      rw [← hys] at hyl
      have HN := hide (normal_any A2 c2 ys V hown.ats (by omega))
      have HBR := hide hbr
      have HYS := hide hys
      clear hys hke hown hbr
      go_wp2_with (go_at_call 71; refine HN.out.mono ?_; rintro e w3 ⟨A3, c3, zs3, rfl, hown3, hb3, hn3, hm3⟩; have HO3 := hide hown3; have HB3 := hide hb3; have HN3 := hide hn3; have HM3 := hide hm3; clear hown3 hb3 hn3 hm3)
      go_ret
      exact ⟨A3, c3, zs3, rfl, HO3.out.lower HBR.out.size, bstep HBR.out HB3.out, HN3.out, fun t => by rw [HM3.out, HYS.out, HMEM.out]⟩

end Go.Proofs.YtdlebcijgdkfjaaGreatDoor

/-
  condition.Of: where a value of one bit is true and false; condition.within.
-/
namespace Go.Proofs.YtdlebcijgdkfjaaGreatDoor
open Go.RowKit

set_option maxRecDepth 100000 in
set_option maxHeartbeats 4000000 in
theorem cof_any (g : Int → ByteArray) (a z : Int) (A : Option Addr) (c : Nat) (l : List Spn) (w : World) (h : Row w (Lo w.heap.size) 3 encSp A l) (hs : Spans g a z l) (h0 : 0 ≤ a) (hz : z ≤ 1099511627776) (hl : l.length ≤ 1000000) :
    Calls Tryz.prog 60 #[.slice A l.length c] w (RetTr w (fun t => a ≤ t ∧ t ≤ z ∧ g t = ⟨#[49]⟩) (fun t => a ≤ t ∧ t ≤ z ∧ g t = ⟨#[48]⟩)) := by
  have HWH := hide (fun (W : World) (vb vo vc : Nat) (u : ByteArray) (hb : Below w.heap.size w W) (hu : W.cell? ⟨vb, vo, none⟩ = some (.string u)) => where_any g a z A c l vb vo vc u W (h.grow hb) hs h0 hz hl hu)
  clear h hs
  obtain ⟨W0, hW0⟩ : ∃ W0, w.alloc (.cells #[.slice none 0 0, .slice none 0 0] 45) = W0 := ⟨_, rfl⟩
  have g0 : W0.heap[w.heap.size]? = some (.cells #[.slice none 0 0, .slice none 0 0] 45 (0, 0)) := by rw [← hW0]; exact heap_alloc_new w _
  have hb0 : Below w.heap.size w W0 := by rw [← hW0]; exact (Below.refl _ _).alloc (Nat.le_refl _) _
  have hba : Below w.heap.size w (W0.alloc (.cells #[.string ⟨#[49]⟩] 9)) := hb0.alloc hb0.size _
  have HA := hide (HWH.out (W0.alloc (.cells #[.string ⟨#[49]⟩] 9)) W0.heap.size 0 1 ⟨#[49]⟩ hba (box_cell (heap_alloc_new W0 _)))
  have HW0 := hide hW0
  have HB0 := hide hb0
  have HBA := hide hba
  have HG0 := hide g0
  have hz0 := box_lt g0
  clear hW0 hb0 hba g0
  go_enter Tryz.func60, Tryz.ntmps60
  go_upto_region 1 with (fail)
  rw [HW0.out]
  go_wp2_with fail
  refine HA.out.mono ?_
  rintro e w1 ⟨A1, c1, y1, rfl, o1, b1, n1, m1⟩
  have HB1 := hide (bstep HBA.out b1)
  have hbb : Below w.heap.size w (w1.alloc (.cells #[.string ⟨#[48]⟩] 9)) := HB1.out.alloc HB1.out.size _
  have HBB := hide (HWH.out (w1.alloc (.cells #[.string ⟨#[48]⟩] 9)) w1.heap.size 0 1 ⟨#[48]⟩ hbb (box_cell (heap_alloc_new w1 _)))
  have HM1 := hide m1
  have HN1 := hide n1
  have HO1 := hide o1
  have HB1a := hide b1
  have HBV := hide hbb
  clear m1 n1 o1 b1 hbb
  go_wp2_with fail
  refine HBB.out.mono ?_
  rintro e w2 ⟨A2, c2, y2, rfl, o2, b2, n2, m2⟩
  have g1 : w1.heap[w.heap.size]? = some (.cells #[.slice none 0 0, .slice none 0 0] 45 (0, 0)) := (HB1a.out.block _ (by simp; omega)).trans ((Below.heap_alloc _ _ _ hz0).trans HG0.out)
  have hz1 := box_lt g1
  have g2 : w2.heap[w.heap.size]? = some (.cells #[.slice none 0 0, .slice none 0 0] 45 (0, 0)) := (b2.block _ (by simp; omega)).trans ((Below.heap_alloc _ _ _ hz1).trans g1)
  have HM2 := hide m2
  have q0 := (boxT2 g2).1
  have q1 := (boxT2 g2).2
  have f0 := (box2_frozen g2).1
  have f1 := (box2_frozen g2).2
  have hs2 := box_lt g2
  have HG2 := hide g2
  have HO2 := hide o2
  have HB2 := hide (bstep HBV.out b2)
  have o12 : OwnIv w2 w1.heap.size A2 c2 y2 := o2.lower (by simp)
  have o11 : OwnIv w2 w.heap.size A1 c1 y1 := own_block (HO1.out.lower (by have := HB0.out.size; simp; omega)) fun g hg => by
    have := (own_ob HO1.out g hg).2
    exact (b2.block g (by simp; omega)).trans (Below.heap_alloc _ _ _ this)
  have HO11 := hide o11
  clear g1 g2 m2 o2 b2 o12 o11
  go_wp2_with fail
  obtain ⟨W3, hW3⟩ : ∃ W3 : World, (w2.setCell ⟨w.heap.size, 0, none⟩ (.slice A1 y1.length c1)).setCell ⟨w.heap.size, 1, none⟩ (.slice A2 y2.length c2) = W3 := ⟨_, rfl⟩
  have g3 : W3.heap[w.heap.size]? = some (.cells #[.slice A1 y1.length c1, .slice A2 y2.length c2] 45 (0, 0)) := by rw [← hW3]; exact box2_set HG2.out
  rw [hW3]
  have e1 : OwnIv W3 w.heap.size A1 c1 y1 := by rw [← hW3]; exact set2_own HG2.out HO11.out
  have e2 : OwnIv W3 w.heap.size A2 c2 y2 := by rw [← hW3]; exact set2_own HG2.out (HO2.out.lower (by have := HB1.out.size; simp; omega))
  have e3 : Below w.heap.size w W3 := by rw [← hW3]; exact (HB2.out.setCell (by simp) _).setCell (by simp) _
  have r0 := (boxT2 g3).1
  have r1 := (boxT2 g3).2
  have E1 := hide e1
  have E2 := hide e2
  have E3 := hide e3
  clear hW3 e1 e2 e3 g3
  exact bodyPost_ret (v := .agg #[.slice A1 y1.length c1, .slice A2 y2.length c2]) (by simp [results, Tryz.results60, go_sem, r0, r1]) rfl ⟨A1, c1, y1, A2, c2, y2, rfl, E1.out, E2.out, E3.out, HN1.out, n2, HM1.out, HM2.out⟩

set_option maxRecDepth 100000 in
theorem within_any (v : Wv) (L c : Int) (M : Nat) (f t : Int) (w : World) (h : SourceAt w M v L c) : Calls Tryz.prog 47 #[srcV M, .int .i64 f, .int .i64 t] w fun e w' => e = .returned (.bool (decide (0 ≤ f) && decide (f ≤ t) && decide (t ≤ v.fin))) ∧ w = w' := by
  have HE := hide (end_any M v L c w h)
  have hm := meth_end (some ⟨M, 0, none⟩)
  unfold srcV
  clear h
  by_cases h1 : 0 ≤ f
  · have T1 : decide (0 ≤ f) = true := decide_eq_true h1
    by_cases h2 : f ≤ t
    · have T2 : decide (f ≤ t) = true := decide_eq_true h2
      go_enter Tryz.func47, Tryz.ntmps47
      go_wp2_with fail
      refine HE.out.mono ?_
      rintro e w' ⟨rfl, rfl⟩
      go_wp2_with fail
      go_ret
      exact ⟨by first | rfl | (rw [T1, T2]; rfl), rfl⟩
    · have T2 : decide (f ≤ t) = false := decide_eq_false h2
      go_enter Tryz.func47, Tryz.ntmps47
      go_wp2_with fail
      go_ret
      exact ⟨by first | rfl | (rw [T1, T2]; rfl), rfl⟩
  · have T1 : decide (0 ≤ f) = false := decide_eq_false h1
    go_enter Tryz.func47, Tryz.ntmps47
    go_wp2_with fail
    go_ret
    exact ⟨by first | rfl | (rw [T1]; rfl), rfl⟩

end Go.Proofs.YtdlebcijgdkfjaaGreatDoor

/-
  How many intervals the sets of a condition have; the table of powers of ten behind calls of a source.
-/
namespace Go.Proofs.YtdlebcijgdkfjaaGreatDoor
open Go.RowKit

theorem nodup_sub : ∀ {l m : List Int}, l.Nodup → (∀ x ∈ l, x ∈ m) → l.length ≤ m.length
  | [], _, _, _ => Nat.zero_le _
  | x :: l, m, hn, h => by
    rw [List.nodup_cons] at hn
    have hx := h x (by simp)
    have h1 := nodup_sub (l := l) (m := m.erase x) hn.2 fun y hy => (List.mem_erase_of_ne (fun e => hn.1 (by rw [← e]; exact hy))).2 (h y (by simp [hy]))
    rw [List.length_erase_of_mem hx] at h1
    have := List.length_pos_of_mem hx
    simp only [List.length_cons]
    omega
theorem norm_count {g : Int → ByteArray} {a z : Int} {l : List Spn} {ys : List Iv} {u : ByteArray} (hn : Norm ys) (hm : ∀ t, Mem ys t ↔ a ≤ t ∧ t ≤ z ∧ g t = u) (hs : Spans g a z l) :
    ys.length ≤ (l.filter fun x => decide (x.v = u)).length := by
  have hnd : (ys.map Prod.fst).Nodup := by
    unfold List.Nodup
    rw [List.pairwise_map]
    refine (hn.2.imp_of_mem fun {p q} hp hq h => ?_)
    have := hn.1 p hp
    unfold Okv at this
    omega
  have := nodup_sub (m := (l.filter fun x => decide (x.v = u)).map Spn.f) hnd fun p hp => by
    obtain ⟨y, hy, rfl⟩ := List.mem_map.1 hp
    have hok := hn.1 y hy
    unfold Okv at hok
    have hmem : Mem ys y.1 := ⟨by omega, by omega, y, hy, Int.le_refl _, by omega⟩
    obtain ⟨k1, k2, k3⟩ := (hm _).1 hmem
    obtain ⟨x, hx, x1, x2⟩ := hs.covers k1 k2
    obtain ⟨m1, m2, m3, m4⟩ := hs.mem hx
    have hv : x.v = u := (m4 _ x1 x2).symm.trans k3
    refine List.mem_map.2 ⟨x, List.mem_filter.2 ⟨hx, decide_eq_true hv⟩, ?_⟩
    rcases Int.lt_or_le x.f y.1 with h1 | h1
    · exfalso
      have hmem2 : Mem ys (y.1 - 1) := (hm _).2 ⟨by omega, by omega, (m4 _ (by omega) (by omega)).trans hv⟩
      obtain ⟨_, _, y', hy', e1, e2⟩ := hmem2
      by_cases he : y' = y
      · subst he; omega
      · obtain ⟨i, hi⟩ := List.getElem?_of_mem hy
        obtain ⟨j, hj⟩ := List.getElem?_of_mem hy'
        have hi1 := (List.getElem?_eq_some_iff.1 hi)
        have hj1 := (List.getElem?_eq_some_iff.1 hj)
        obtain ⟨hi1, hi2⟩ := hi1
        obtain ⟨hj1, hj2⟩ := hj1
        have hij : i ≠ j := fun e => by subst e; rw [hi2] at hj2; exact he hj2.symm
        have hpw := List.pairwise_iff_getElem.1 hn.2
        rcases Nat.lt_or_ge i j with h2 | h2
        · have h3 := hpw i j hi1 hj1 h2
          rw [hi2, hj2] at h3
          have := hn.1 y' hy'
          unfold Okv at this
          omega
        · have h3 := hpw j i hj1 hi1 (by omega)
          rw [hi2, hj2] at h3
          omega
    · omega
  simpa using this
theorem two_filters (l : List Spn) : (l.filter fun x => decide (x.v = ⟨#[49]⟩)).length + (l.filter fun x => decide (x.v = ⟨#[48]⟩)).length ≤ l.length := by
  induction l with
  | nil => simp
  | cons x l ih =>
    rw [List.filter_cons, List.filter_cons, List.length_cons]
    by_cases h1 : x.v = ⟨#[49]⟩
    · have h2 : x.v ≠ ⟨#[48]⟩ := by rw [h1]; decide
      rw [if_pos (decide_eq_true h1), if_neg (by simpa using h2), List.length_cons]
      omega
    · rw [if_neg (by simpa using h1)]
      split
      · rw [List.length_cons]; omega
      · omega
theorem Tab.src {w w' : World} {M : Nat} {v : Wv} {L c : Int} (h : Tab w) (hs : SourceAt w M v L c) (hb : But w.heap.size (some M) w w') : Tab w' := ⟨by
  have h0 := h.tab
  unfold Lib.TabIs World.var? at h0 ⊢
  obtain ⟨g, h1, h2⟩ := Option.bind_eq_some_iff.1 h0
  rw [h1]
  have h3 : g < w.heap.size := by
    rcases Nat.lt_or_ge g w.heap.size with h3 | h3
    · exact h3
    · rw [Array.getElem?_eq_none h3] at h2; cases h2
  have hne : g ≠ M := fun e => by
    subst e
    rw [hs.box] at h2
    unfold memO at h2
    have h4 := congrArg (Option.map Array.size) h2
    revert h4
    simp [Lib.pow10Tab]
  show (match w'.heap[g]? with | some (.cells cs _ _) => some cs | _ => none) = _
  rw [hb.block g h3 (fun e => by injection e with e; exact hne e)]
  exact h2⟩

end Go.Proofs.YtdlebcijgdkfjaaGreatDoor

/-
  The loop of runs.Of in memory: the list so far in its box, the boxes that the iterator has caught.
-/
namespace Go.Proofs.YtdlebcijgdkfjaaGreatDoor
open Go.RowKit Go.Shelf

theorem own_cellsT {w : World} {base : Nat} {e : TypeId} {size n : Nat} {A : Option Addr} {c : Nat} {xs : List Value} (h : w.ownsRow base e size (.slice A n c) n xs) {g : Nat} (hg : ob A = some g) : ∃ cs, w.heap[g]? = some (.cells cs e (0, 0)) := by
  rcases h.2 with ⟨h3, _⟩ | ⟨g', cap, cur, h3, _, h4, _⟩
  · rw [← ob_eq A n c, h3] at hg; cases hg
  · rw [← ob_eq A n c, h3] at hg
    have : g' = g := by simpa [Value.ownBlock] using hg
    subst this
    exact ⟨cur, h4⟩

/-- what the loop has at hand: the world at the entry, the source, the error's box, the base of its list, the list's box (the caught boxes lie behind it) -/
structure OFix where
  w : World
  M : Nat
  E : Nat
  B : Nat
  O : Nat
structure OFix.Ok (F : OFix) : Prop where
  m : F.M < F.w.heap.size
  e : F.w.heap.size + 2 ≤ F.E
  b : F.E < F.B
  o : F.B ≤ F.O
structure OfI (F : OFix) (f k to_ : Int) (l : List Spn) (A : Option Addr) (c : Nat) (W : World) : Prop where
  box : W.heap[F.O]? = some (.cells #[.slice A l.length c] 34 (0, 0))
  own : OwnSp W F.B A c l
  ch : ChB W (F.O + 1 + 1 + 1) (F.O + 1) (F.O + 1 + 1) (F.O + 1 + 1 + 1 + 1 + 1) (F.O + 1 + 1 + 1 + 1) f k to_ F.M F.E
  but : But F.w.heap.size (some F.M) F.w W
  r0 : W.heap[F.w.heap.size]? = some (.cells #[.slice none 0 0] 34 (0, 0))
  r1 : W.heap[F.w.heap.size + 1]? = some (errO 0)
def OI (F : OFix) (f k to_ : Int) (l : List Spn) (W : World) : Prop := ∃ A c, OfI F f k to_ l A c W

section
variable {F : OFix} {f k to_ : Int} {l : List Spn} {A : Option Addr} {c : Nat} {W W' : World}
theorem OfI.move (ok : F.Ok) (h : OfI F f k to_ l A c W) (hos : W'.os = W.os) (ht : W'.tape = W.tape) (hp : W'.output = W.output) (hsz : W.heap.size ≤ W'.heap.size)
    (h1 : ∀ b, b < F.w.heap.size → b ≠ F.M → W'.heap[b]? = W.heap[b]?) (h2 : ∀ (b : Nat) (cs : Array Value) (t : TypeId), b ≠ F.M → b ≠ F.E → W.heap[b]? = some (.cells cs t (0, 0)) → W'.heap[b]? = some (.cells cs t (0, 0))) : OfI F f k to_ l A c W' := by
  have o1 := ok.m
  have o2 := ok.e
  have o3 := ok.b
  have o4 := ok.o
  refine ⟨h2 _ _ _ (by omega) (by omega) h.box, own_block h.own fun g hg => ?_, ⟨h2 _ _ _ (by omega) (by omega) h.ch.f, h2 _ _ _ (by omega) (by omega) h.ch.s, h2 _ _ _ (by omega) (by omega) h.ch.g, h2 _ _ _ (by omega) (by omega) h.ch.e, h2 _ _ _ (by omega) (by omega) h.ch.t⟩,
    ⟨hos.trans h.but.os, ht.trans h.but.tape, hp.trans h.but.output, Nat.le_trans h.but.size hsz, fun b hb hn => ?_⟩, h2 _ _ _ (by omega) (by omega) h.r0, h2 _ _ _ (by omega) (by omega) h.r1⟩
  · obtain ⟨cs, hcs⟩ := own_cellsT h.own hg
    have := (own_ob h.own g hg).1
    rw [hcs]
    exact h2 _ _ _ (by omega) (by omega) hcs
  · rw [h1 b hb (fun e => hn (by rw [e]))]
    exact h.but.block b hb hn
theorem OfI.step (ok : F.Ok) (h : OfI F f k to_ l A c W) (hs : StepR F.M F.E W W') : OfI F f k to_ l A c W' := by
  have o1 := ok.m
  have o2 := ok.e
  have o3 := h.but.size
  refine h.move ok hs.1 hs.2.1 hs.2.2.1 hs.2.2.2.1 (fun b hb hn => hs.2.2.2.2 b (by omega) hn (by omega)) (fun b cs t h1 h2 h3 => (hs.2.2.2.2 b (box_lt h3) h1 h2).trans h3)
theorem OfI.grown (ok : F.Ok) (h : OfI F f k to_ l A c W) {row : Option Nat} (hg : W.grownBy W' row) (hr : ∀ r, row = some r → F.w.heap.size ≤ r ∧ ∃ o : Obj, W.heap[r]? = some o ∧ o.isCells = false) : OfI F f k to_ l A c W' := by
  have o3 := h.but.size
  refine h.move ok hg.os hg.tape hg.output hg.size (fun b hb hn => hg.block b (by omega) (fun e => by have := (hr b e.symm).1; omega)) (fun b cs t h1 h2 h3 => ?_)
  refine (hg.block b (box_lt h3) fun e => ?_).trans h3
  obtain ⟨_, o', h4, h5⟩ := hr b e.symm
  rw [h3] at h4; injection h4 with h4; subst h4; cases h5
theorem OfI.below (ok : F.Ok) (h : OfI F f k to_ l A c W) (hb : Below W.heap.size W W') : OfI F f k to_ l A c W' := h.step ok (StepR.below hb)
/-- behind the append of a round -/
theorem OfI.push (ok : F.Ok) (h : OfI F f k to_ l A c W) {l' : List Spn} {A' : Option Addr} {c' : Nat} (ho : OwnSp W' F.B A' c' l') (hb : But W.heap.size (ob A) W W') {W9 : World} (hW : W'.setCell ⟨F.O, 0, none⟩ (.slice A' l'.length c') = W9) :
    OfI F f k to_ l' A' c' W9 ∧ (∀ base, KeepsFrom base W W9) ∧ KpC F.M F.E (F.O + 1 + 1 + 1) (F.O + 1) (F.O + 1 + 1) (F.O + 1 + 1 + 1 + 1 + 1) (F.O + 1 + 1 + 1 + 1) W W9 := by
  have o1 := ok.m
  have o2 := ok.e
  have o3 := ok.b
  have o4 := ok.o
  have lo := box_lt h.box
  have old : ∀ (b : Nat), b < W.heap.size → b ≠ F.O → ob A ≠ some b → W9.heap[b]? = W.heap[b]? := fun b h1 h2 h3 => by
    rw [← hW, set_cell_other h2]
    exact hb.block b h1 (fun e => h3 e.symm)
  have noA : ∀ (b : Nat) (cs : Array Value) (t : TypeId), W.heap[b]? = some (.cells cs t (0, 0)) → t ≠ 100 → ob A ≠ some b := fun b cs t h1 h2 e => by
    obtain ⟨cs', h3⟩ := own_cellsT h.own e
    rw [h1] at h3
    injection h3 with h3
    injection h3 with _ h3
    exact h2 h3
  have noA' : ob A' ≠ some F.O := fun e => by
    obtain ⟨cs', h3⟩ := own_cellsT ho e
    rw [hb.block F.O lo (fun e => noA _ _ _ h.box (by decide) e.symm), h.box] at h3
    injection h3 with h3
    injection h3 with _ h3
    cases h3
  have lowA : ∀ b, b < F.B → ob A ≠ some b := fun b hlt e => by have := (own_ob h.own b e).1; omega
  have cell : ∀ (b : Nat) (cs : Array Value) (t : TypeId), b ≠ F.O → W.heap[b]? = some (.cells cs t (0, 0)) → t ≠ 100 → W9.heap[b]? = some (.cells cs t (0, 0)) := fun b cs t h1 h2 h3 => (old b (box_lt h2) h1 (noA b cs t h2 h3)).trans h2
  have hO := hb.block F.O lo (fun e => noA _ _ _ h.box (by decide) e.symm)
  have hsz : W.heap.size ≤ W9.heap.size := by rw [← hW]; simp [World.setCell]; exact hb.size
  refine ⟨⟨?_, ?_, ⟨cell _ _ _ (by omega) h.ch.f (by decide), cell _ _ _ (by omega) h.ch.s (by decide), cell _ _ _ (by omega) h.ch.g (by decide), cell _ _ _ (by omega) h.ch.e (by decide), cell _ _ _ (by omega) h.ch.t (by decide)⟩, ⟨?_, ?_, ?_, ?_, fun b hb' hn => ?_⟩, ?_, ?_⟩, fun base => ⟨hsz, fun j o _ h1 h2 => ?_⟩, fun b hb' => ?_, fun b cs h1 => ?_⟩
  · rw [← hW]; exact box_set1 (hO.trans h.box)
  · rw [← hW]
    exact own_block ho fun g hg => set_cell_other (fun e => noA' (by rw [hg, e]))
  · rw [← hW]; exact hb.os.trans h.but.os
  · rw [← hW]; exact hb.tape.trans h.but.tape
  · rw [← hW]; exact hb.output.trans h.but.output
  · exact Nat.le_trans h.but.size hsz
  · have := h.but.size
    rw [old b (by omega) (by omega) (lowA b (by omega))]
    exact h.but.block b hb' hn
  · exact (old _ (box_lt h.r0) (by omega) (lowA _ (by omega))).trans h.r0
  · exact (old _ (box_lt h.r1) (by omega) (lowA _ (by omega))).trans h.r1
  · rw [old j (box_lt h1) (fun e => by subst e; rw [h.box] at h1; injection h1 with h1; subst h1; cases h2) (fun e => by
      obtain ⟨cs', h3⟩ := own_cellsT h.own e
      rw [h1] at h3; injection h3 with h3; subst h3; cases h2)]
    exact h1
  · rcases hb' with hb' | rfl | rfl | rfl | rfl | rfl | rfl
    · exact old b (by omega) (by omega) (lowA b (by omega))
    · exact old _ (by omega) (by omega) (lowA _ (by omega))
    · exact (cell _ _ _ (by omega) h.ch.f (by decide)).trans h.ch.f.symm
    · exact (cell _ _ _ (by omega) h.ch.s (by decide)).trans h.ch.s.symm
    · exact (cell _ _ _ (by omega) h.ch.g (by decide)).trans h.ch.g.symm
    · exact (cell _ _ _ (by omega) h.ch.e (by decide)).trans h.ch.e.symm
    · exact (cell _ _ _ (by omega) h.ch.t (by decide)).trans h.ch.t.symm
  · exact cell _ _ _ (fun e => by subst e; rw [h.box] at h1; injection h1 with h1; injection h1 with _ h1; cases h1) h1 (by decide)
end

end Go.Proofs.YtdlebcijgdkfjaaGreatDoor
