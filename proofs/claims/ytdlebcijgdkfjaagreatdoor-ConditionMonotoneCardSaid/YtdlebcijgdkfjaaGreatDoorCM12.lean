/-
  Several texts in one: DecSc, CmpI. Each says at its head what it holds.
-/
import Derived.Test.YtdlebcijgdkfjaaGreatDoorCM11

/-
  decimal.scan.
-/
namespace Go.Proofs.YtdlebcijgdkfjaaGreatDoor
open Go.RowKit

theorem hit_drop (s : ByteArray) (k : Nat) (l : List UInt8) : hitL s k l = match s.data.toList.drop k with | [] => false | c :: _ => l.contains c := by
  unfold hitL
  cases h : s.data.toList.drop k with
  | nil =>
    have : s.data.toList[k]? = none := by rw [← List.head?_drop, h]; rfl
    rw [this]
    simp
  | cons c r =>
    have : s.data.toList[k]? = some c := by rw [← List.head?_drop, h]; rfl
    rw [this]
    simp only [Option.some.injEq]
    rw [Bool.eq_iff_iff, List.any_eq_true, List.contains_iff_mem]
    constructor
    · rintro ⟨x, hx, e⟩
      have := of_decide_eq_true e
      subst this
      exact hx
    · intro hx
      exact ⟨c, hx, decide_eq_true rfl⟩
theorem drop_more (s : ByteArray) {k : Nat} {c : UInt8} {r : List UInt8} (h : s.data.toList.drop k = c :: r) : k < s.size ∧ s.data.toList.drop (k + 1) = r := by
  constructor
  · apply Classical.byContradiction
    intro hn
    rw [List.drop_of_length_le (by simp; omega)] at h
    cases h
  · rw [← List.drop_drop, h]; rfl
theorem sgn_h1 {s : ByteArray} {k : Nat} (h : hitL s k [45] = true) : k < s.size ∧ sgn1 (s.data.toList.drop k) = (true, s.data.toList.drop (k + 1)) := by
  rw [hit_drop] at h
  cases hd : s.data.toList.drop k with
  | nil => rw [hd] at h; cases h
  | cons c r =>
    rw [hd] at h
    obtain ⟨h1, h2⟩ := drop_more s hd
    have hc : c = 45 := by simpa using h
    subst hc
    exact ⟨h1, by rw [h2]; rfl⟩
theorem sgn_h2 {s : ByteArray} {k : Nat} (h : hitL s k [43] = true) : k < s.size ∧ sgn1 (s.data.toList.drop k) = (false, s.data.toList.drop (k + 1)) := by
  rw [hit_drop] at h
  cases hd : s.data.toList.drop k with
  | nil => rw [hd] at h; cases h
  | cons c r =>
    rw [hd] at h
    obtain ⟨h1, h2⟩ := drop_more s hd
    have hc : c = 43 := by simpa using h
    subst hc
    exact ⟨h1, by rw [h2]; rfl⟩
theorem sgn_h3 {s : ByteArray} {k : Nat} (h0 : hitL s k [45] = false) (h : hitL s k [43] = false) : sgn1 (s.data.toList.drop k) = (false, s.data.toList.drop k) := by
  rw [hit_drop] at h h0
  cases hd : s.data.toList.drop k with
  | nil => rfl
  | cons c r =>
    rw [hd] at h h0
    have hc : c ≠ 45 := by simpa using h0
    have hc2 : c ≠ 43 := by simpa using h
    rw [sgn1_cons, if_neg hc, if_neg hc2]
theorem frac_h1 {s : ByteArray} {k : Nat} (h : hitL s k [46] = true) : k < s.size ∧ fracR (s.data.toList.drop k) = if dgs (s.data.toList.drop (k + 1)) = [] then none else some (dgs (s.data.toList.drop (k + 1)), rst (s.data.toList.drop (k + 1))) := by
  rw [hit_drop] at h
  cases hd : s.data.toList.drop k with
  | nil => rw [hd] at h; cases h
  | cons c r =>
    rw [hd] at h
    obtain ⟨h1, h2⟩ := drop_more s hd
    have hc : c = 46 := by simpa using h
    rw [h2, fracR_cons, if_pos hc]
    exact ⟨h1, rfl⟩
theorem frac_h2 {s : ByteArray} {k : Nat} (h : hitL s k [46] = false) : fracR (s.data.toList.drop k) = some ([], s.data.toList.drop k) := by
  rw [hit_drop] at h
  cases hd : s.data.toList.drop k with
  | nil => rfl
  | cons c r =>
    rw [hd] at h
    have hc : c ≠ 46 := by simpa using h
    rw [fracR_cons, if_neg hc]
theorem exp_h1 {s : ByteArray} {k : Nat} (h : hitL s k [101, 69] = true) : k < s.size ∧ expR (s.data.toList.drop k) = if dgs (sgn1 (s.data.toList.drop (k + 1))).2 = [] then none else some ((sgn1 (s.data.toList.drop (k + 1))).1, dgs (sgn1 (s.data.toList.drop (k + 1))).2, rst (sgn1 (s.data.toList.drop (k + 1))).2) := by
  rw [hit_drop] at h
  cases hd : s.data.toList.drop k with
  | nil => rw [hd] at h; cases h
  | cons c r =>
    rw [hd] at h
    obtain ⟨h1, h2⟩ := drop_more s hd
    have hc : c = 101 ∨ c = 69 := by simpa using h
    rw [h2, expR_cons, if_pos hc]
    exact ⟨h1, rfl⟩
theorem exp_h2 {s : ByteArray} {k : Nat} (h : hitL s k [101, 69] = false) : expR (s.data.toList.drop k) = some (false, [], s.data.toList.drop k) := by
  rw [hit_drop] at h
  cases hd : s.data.toList.drop k with
  | nil => rfl
  | cons c r =>
    rw [hd] at h
    have hc : ¬ (c = 101 ∨ c = 69) := by simpa using h
    rw [expR_cons, if_neg hc]

/-- the variables of scan -/
structure ScS (w : World) (s : ByteArray) (neg : Bool) (A : Option Addr) (c : Nat) (ds : List UInt8) (e : Int) (k : Nat) (W : World) : Prop where
  bel : Below w.heap.size w W
  bS : W.heap[w.heap.size]? = some (strO s)
  bR : W.heap[w.heap.size + 1]? = some (ncs false none 0 0 0)
  bN : W.heap[w.heap.size + 1 + 1]? = some (ncs neg A ds.length c e)
  bA : W.heap[w.heap.size + 1 + 1 + 1]? = some (atO k)
  own : OwnBy W (w.heap.size + 1 + 1 + 1 + 1) A c ds
  kle : k ≤ s.size

theorem set_other {W : World} {a b j : Nat} {v : Value} (h : b ≠ a) : (W.setCell ⟨a, j, none⟩ v).heap[b]? = W.heap[b]? := by
  simp [World.setCell, Array.getElem?_modify]
  intro e; exact absurd e.symm h
theorem ncs_set0 {W : World} {N : Nat} {neg : Bool} {A : Option Addr} {n c : Nat} {e : Int} (h : W.heap[N]? = some (ncs neg A n c e)) (b : Bool) : (W.setCell ⟨N, 0, none⟩ (.bool b)).heap[N]? = some (ncs b A n c e) := by
  unfold ncs at h
  simp [World.setCell, Array.getElem?_modify, h, ncs]
theorem ncs_set1 {W : World} {N : Nat} {neg : Bool} {A : Option Addr} {n c : Nat} {e : Int} (h : W.heap[N]? = some (ncs neg A n c e)) (A' : Option Addr) (n' c' : Nat) : (W.setCell ⟨N, 1, none⟩ (.slice A' n' c')).heap[N]? = some (ncs neg A' n' c' e) := by
  unfold ncs at h
  simp [World.setCell, Array.getElem?_modify, h, ncs]
theorem ncs_set2 {W : World} {N : Nat} {neg : Bool} {A : Option Addr} {n c : Nat} {e : Int} (h : W.heap[N]? = some (ncs neg A n c e)) (e' : Int) : (W.setCell ⟨N, 2, none⟩ (.int .i64 e')).heap[N]? = some (ncs neg A n c e') := by
  unfold ncs at h
  simp [World.setCell, Array.getElem?_modify, h, ncs]

section
variable {w : World} {s : ByteArray} {neg : Bool} {A : Option Addr} {c : Nat} {ds : List UInt8} {e : Int} {k : Nat} {W W' : World}
theorem ScS.ownlt (h : ScS w s neg A c ds e k W) {g : Nat} (hg : ob A = some g) : w.heap.size + 1 + 1 + 1 + 1 ≤ g ∧ g < W.heap.size := own_ob h.own g hg
theorem ScS.one (h : ScS w s neg A c ds e k W) {k' : Nat} (hA : W'.heap[w.heap.size + 1 + 1 + 1]? = some (atO k')) (hb : But W.heap.size (some (w.heap.size + 1 + 1 + 1)) W W') (hk : k' ≤ s.size) : ScS w s neg A c ds e k' W' :=
  ⟨h.bel.trans (hb.below h.bel.size (fun k e => by injection e with e; omega)),
   (hb.block _ (box_lt h.bS) (fun e => by injection e with e; omega)).trans h.bS,
   (hb.block _ (box_lt h.bR) (fun e => by injection e with e; omega)).trans h.bR,
   (hb.block _ (box_lt h.bN) (fun e => by injection e with e; omega)).trans h.bN, hA,
   own_block h.own (fun g hg => hb.block g (h.ownlt hg).2 (fun e => by injection e with e; have := (h.ownlt hg).1; omega)), hk⟩
theorem ScS.below (h : ScS w s neg A c ds e k W) (hb : Below W.heap.size W W') : ScS w s neg A c ds e k W' :=
  h.one (box_below hb h.bA) (But.of hb) h.kle
theorem ScS.setNeg (h : ScS w s neg A c ds e k W) (b : Bool) : ScS w s b A c ds e k (W.setCell ⟨w.heap.size + 1 + 1, 0, none⟩ (.bool b)) :=
  ⟨h.bel.setCell (p := ⟨w.heap.size + 1 + 1, 0, none⟩) (by show w.heap.size ≤ w.heap.size + 1 + 1; omega) _, (set_other (by omega)).trans h.bS, (set_other (by omega)).trans h.bR, ncs_set0 h.bN b, (set_other (by omega)).trans h.bA,
   own_block h.own (fun g hg => set_other (by have := (h.ownlt hg).1; omega)), h.kle⟩
theorem ScS.setE (h : ScS w s neg A c ds e k W) (e' : Int) : ScS w s neg A c ds e' k (W.setCell ⟨w.heap.size + 1 + 1, 2, none⟩ (.int .i64 e')) :=
  ⟨h.bel.setCell (p := ⟨w.heap.size + 1 + 1, 2, none⟩) (by show w.heap.size ≤ w.heap.size + 1 + 1; omega) _, (set_other (by omega)).trans h.bS, (set_other (by omega)).trans h.bR, ncs_set2 h.bN e', (set_other (by omega)).trans h.bA,
   own_block h.own (fun g hg => set_other (by have := (h.ownlt hg).1; omega)), h.kle⟩
theorem ScS.app (h : ScS w s neg A c ds e k W) {A' : Option Addr} {c' : Nat} {ds' : List UInt8} (g : W.grownBy W' (ob A)) (o : OwnBy W' (w.heap.size + 1 + 1 + 1 + 1) A' c' ds') :
    ScS w s neg A' c' ds' e k (W'.setCell ⟨w.heap.size + 1 + 1, 1, none⟩ (.slice A' ds'.length c')) := by
  have hne : ∀ M, M < w.heap.size + 1 + 1 + 1 + 1 → ob A ≠ some M := fun M hM e => by have := (h.ownlt e).1; omega
  have hb : Below w.heap.size w W' := h.bel.grown g h.bel.size (fun k hk => by have := (h.ownlt hk).1; omega)
  exact ⟨hb.setCell (p := ⟨w.heap.size + 1 + 1, 1, none⟩) (by show w.heap.size ≤ w.heap.size + 1 + 1; omega) _,
    (set_other (by omega)).trans (box_grown h.bS g (hne _ (by omega))), (set_other (by omega)).trans (box_grown h.bR g (hne _ (by omega))), ncs_set1 (box_grown h.bN g (hne _ (by omega))) A' _ c',
    (set_other (by omega)).trans (box_grown h.bA g (hne _ (by omega))), own_block o (fun g hg => set_other (by have := (own_ob o g hg).1; omega)), h.kle⟩
theorem ScS.ret (h : ScS w s neg A c ds e k W) (neg' : Bool) (A' : Option Addr) (n' c' : Nat) (e' : Int) {W9 : World} (hW : ((W.setCell ⟨w.heap.size + 1, 0, none⟩ (.bool neg')).setCell ⟨w.heap.size + 1, 1, none⟩ (.slice A' n' c')).setCell ⟨w.heap.size + 1, 2, none⟩ (.int .i64 e') = W9) :
    Below w.heap.size w W9 ∧ W9.cell? ⟨w.heap.size + 1, 0, none⟩ = some (.bool neg') ∧ W9.cell? ⟨w.heap.size + 1, 1, none⟩ = some (.slice A' n' c') ∧ W9.cell? ⟨w.heap.size + 1, 2, none⟩ = some (.int .i64 e') := by
  subst hW
  have h1 := ncs_set2 (ncs_set1 (ncs_set0 h.bR neg') A' n' c') e'
  obtain ⟨c0, c1, c2, _⟩ := ncs_at h1
  exact ⟨((h.bel.setCell (p := ⟨w.heap.size + 1, 0, none⟩) (Nat.le_succ _) _).setCell (p := ⟨w.heap.size + 1, 1, none⟩) (Nat.le_succ _) _).setCell (p := ⟨w.heap.size + 1, 2, none⟩) (Nat.le_succ _) _, c0, c1, c2⟩
end

def ScanP (l : List UInt8) (W : World) (v : Value) : Prop := match readR l with
  | none => ∃ neg A n c e, v = .tuple #[nv neg A n c e, .bool false]
  | some r => ∃ x, v = .tuple #[x, .bool true] ∧ NumIs W x (decOf 1048576 r)

theorem str_cells (part : List UInt8) : Lib.strCells (bs part) = part.map bv := by unfold Lib.strCells bs; simp
theorem alloc4 (w : World) (o0 o1 o2 o3 : Obj) : ((((w.alloc o0).alloc o1).alloc o2).alloc o3).heap[w.heap.size]? = some o0 ∧ ((((w.alloc o0).alloc o1).alloc o2).alloc o3).heap[w.heap.size + 1]? = some o1 ∧
    ((((w.alloc o0).alloc o1).alloc o2).alloc o3).heap[w.heap.size + 1 + 1]? = some o2 ∧ ((((w.alloc o0).alloc o1).alloc o2).alloc o3).heap[w.heap.size + 1 + 1 + 1]? = some o3 := by
  have s1 : (w.alloc o0).heap.size = w.heap.size + 1 := World.size_alloc _ _
  have s2 : ((w.alloc o0).alloc o1).heap.size = w.heap.size + 1 + 1 := by rw [World.size_alloc, s1]
  have s3 : (((w.alloc o0).alloc o1).alloc o2).heap.size = w.heap.size + 1 + 1 + 1 := by rw [World.size_alloc, s2]
  have n0 := heap_alloc_new w o0
  have n1 := heap_alloc_new (w.alloc o0) o1
  have n2 := heap_alloc_new ((w.alloc o0).alloc o1) o2
  have n3 := heap_alloc_new (((w.alloc o0).alloc o1).alloc o2) o3
  rw [s1] at n1
  rw [s2] at n2
  rw [s3] at n3
  exact ⟨by rw [heap_alloc_old _ _ (by omega), heap_alloc_old _ _ (by omega), heap_alloc_old _ _ (by omega)]; exact n0,
    by rw [heap_alloc_old _ _ (by omega), heap_alloc_old _ _ (by omega)]; exact n1, by rw [heap_alloc_old _ _ (by omega)]; exact n2, n3⟩
theorem app_row {w : World} {base : Nat} {v : Value} {ds part : List UInt8} (h : w.ownsRow base 5 1 v (ds.length + (bs part).size) (ds.map bv ++ Lib.strCells (bs part))) : ∃ A c, v = .slice A (ds ++ part).length c ∧ OwnBy w base A c (ds ++ part) := by
  refine ownBy_row (l := ds ++ part) ?_
  rw [str_cells, bs_size] at h
  rw [List.map_append, List.length_append]
  exact h
/-- a byte of a set was taken, or none was there -/
def ScT (set : List UInt8) (s : ByteArray) (w : World) (neg : Bool) (A : Option Addr) (c : Nat) (ds : List UInt8) (e : Int) (k : Nat) (b : Value) (W : World) : Prop :=
  (b = .bool true ∧ hitL s k set = true ∧ ScS w s neg A c ds e (k + 1) W) ∨ (b = .bool false ∧ hitL s k set = false ∧ ScS w s neg A c ds e k W)
def Sc2 (s : ByteArray) (w : World) (neg : Bool) (ds : List UInt8) (k : Nat) (W : World) : Prop :=
  ∃ (k' : Nat) (fs : List UInt8) (A : Option Addr) (c : Nat), fracR (s.data.toList.drop k) = some (fs, s.data.toList.drop k') ∧ fs.length ≤ 64 ∧ ScS w s neg A c (ds ++ fs) (-(fs.length : Int)) k' W
def Sc3 (s : ByteArray) (w : World) (neg : Bool) (A : Option Addr) (c : Nat) (ds : List UInt8) (e : Int) (k : Nat) (W : World) : Prop :=
  ∃ (k' : Nat) (dn : Bool) (es : List UInt8), expR (s.data.toList.drop k) = some (dn, es, s.data.toList.drop k') ∧ ScS w s neg A c ds (e + (if dn then -(clampE 1048576 es : Int) else (clampE 1048576 es : Int))) k' W
def ScU (set : List UInt8) (s : ByteArray) (w : World) (neg : Bool) (A : Option Addr) (c : Nat) (ds : List UInt8) (e : Int) (k : Nat) (b : Value) (W : World) : Prop :=
  ∃ m : Bool, b = .bool m ∧ hitL s k set = m ∧ ScS w s neg A c ds e (if m then k + 1 else k) W
def ScV (s : ByteArray) (w : World) (neg : Bool) (A : Option Addr) (c : Nat) (ds : List UInt8) (e : Int) (k : Nat) (m : Bool) (W : World) : Prop :=
  ∃ k' : Nat, sgn1 (s.data.toList.drop k) = (m, s.data.toList.drop k') ∧ ScS w s neg A c ds e k' W
def ExR (es : List UInt8) (ev iv : Value) : Prop := ∃ k : Nat, k ≤ es.length ∧ iv = .int .i64 (k : Int) ∧ ev = .int .i64 (clampE 1048576 (es.take k) : Int)
theorem own_bytes {W : World} {base : Nat} {A : Option Addr} {c : Nat} {l : List UInt8} (h : OwnBy W base A c l) (hne : l ≠ []) : BytesAt W A l ∧ l.length ≤ c ∧ c ≤ 9223372036854775807 := by
  rcases h.2 with ⟨h1, h2⟩ | ⟨g, cap, cur, h1, h2, h3, h4, h5, _⟩
  · exact absurd (List.eq_nil_of_length_eq_zero h2) hne
  · injection h1 with h1 _ h1'
    subst h1 h1'
    exact ⟨fun i x hi => ⟨g, 0, rfl, by rw [Nat.zero_add]; exact ownBy_cell h hi⟩, h4, h5⟩
theorem keep_ncs {W : World} {N : Nat} {neg : Bool} {A : Option Addr} {n c : Nat} {e : Int} (h : W.heap[N]? = some (ncs neg A n c e)) {B : Option Addr} {l : List UInt8} (hb : BytesAt W B l) {W' : World} (hw : ∀ b, b ≠ N → W'.heap[b]? = W.heap[b]?) : BytesAt W' B l := fun i x hi => by
  obtain ⟨b, off, e', hc⟩ := hb i x hi
  refine ⟨b, off, e', ?_⟩
  by_cases hbN : b = N
  · exfalso
    subst hbN
    unfold ncs at h
    rw [cell_of_row W b _ _ _ (0, 0) h] at hc
    match off + i, hc with
    | 0, hc => cases hc
    | 1, hc => cases hc
    | 2, hc => simp [bv] at hc
    | j + 3, hc => simp at hc
  · rw [World.cell?_of_block (a := ⟨b, off + i, none⟩) (hw b hbN)]
    exact hc
theorem set3_cell {W : World} {a b i : Nat} (h : b ≠ a) (v0 v1 v2 : Value) : (((W.setCell ⟨a, 0, none⟩ v0).setCell ⟨a, 1, none⟩ v1).setCell ⟨a, 2, none⟩ v2).cell? ⟨b, i, none⟩ = W.cell? ⟨b, i, none⟩ :=
  World.cell?_of_block (a := ⟨b, i, none⟩) (((set_other h).trans (set_other h)).trans (set_other h))
/-- trim, its answer written out -/
def TrimP (d : Dec) (e : Ending) (W : World) : Prop := ∃ (A : Option Addr) (c : Nat), e = .returned (.agg #[.bool d.neg, .slice A d.ds.length c, .int .i64 (expD d)]) ∧ BytesAt W A d.ds ∧ d.ds.length ≤ c ∧ c ≤ 9223372036854775807
def Sc0 (s : ByteArray) (w : World) (b : Value) (W : World) : Prop := (b = .bool true ∧ hitL s 0 [45] = true ∧ ScS w s false none 0 [] 0 1 W) ∨ (b = .bool false ∧ hitL s 0 [45] = false ∧ ScS w s false none 0 [] 0 0 W)
def Sc1 (s : ByteArray) (w W : World) : Prop := ∃ (k : Nat) (neg : Bool), sgn1 s.data.toList = (neg, s.data.toList.drop k) ∧ ScS w s neg none 0 [] 0 k W

set_option maxRecDepth 100000 in
set_option maxHeartbeats 2000000 in
theorem scan_any (s : ByteArray) (w : World) : Calls Tryz.prog 133 #[.string s] w fun e w' => (∃ v, e = .returned v ∧ ScanP s.data.toList w' v) ∧ Below w.heap.size w w' := by
  by_cases h64 : 64 < s.size
  · have HR := hide (show readR s.data.toList = none from readR_long (by simpa using h64))
    go_enter Tryz.func133, Tryz.ntmps133
    go_wp2_with fail
    refine bodyPost_ret (v := .tuple #[.agg #[.bool false, .slice none 0 0, .int .i64 0], .bool false]) (by simp [results, Tryz.results133, go_sem]) rfl ⟨⟨_, rfl, by unfold ScanP; rw [HR.out]; exact ⟨_, _, _, _, _, rfl⟩⟩, ?_⟩
    exact (((Below.refl _ _).alloc (Nat.le_refl _) _).alloc (by simp) _).alloc (by simp; omega) _
  · have hs : s.size ≤ 1000 := by omega
    have d64 : decide (64 < (s.size : Int)) = false := decide_eq_false (by omega)
    go_enter Tryz.func133, Tryz.ntmps133
    go_upto_region 7 with (fail)
    generalize hW0 : World.alloc _ _ = W0
    have st0 : ScS w s false none 0 [] 0 0 W0 := by
      rw [← hW0]
      refine ⟨((((Below.refl _ _).alloc (Nat.le_refl _) _).alloc (by simp) _).alloc (by simp; omega) _).alloc (by simp; omega) _, ?_, ?_, ?_, ?_, World.ownsRow_nil _ _ _ 1, Nat.zero_le _⟩
      · exact (alloc4 w _ _ _ _).1
      · exact (alloc4 w _ _ _ _).2.1
      · exact (alloc4 w _ _ _ _).2.2.1
      · exact (alloc4 w _ _ _ _).2.2.2
    have ST0 := hide st0
    clear hW0 st0
    go_cut [22] (fun b wx => Sc0 s w b wx)
    case first => as_aux_lemma =>
      have st := ST0.out
      cases hm : hitL s 0 [45]
      all_goals
        have HM := hide hm
        clear hm
        go_wp2_with fail
        refine (one_any ⟨#[45]⟩ s _ _ 0 _ _ HM.out st.bA st.bS hs (by decide) (Nat.zero_le _)).mono ?_
        rintro e w1 ⟨rfl, ha, hb⟩
        have HA := hide ha
        have HB := hide hb
        clear ha hb
        go_wp2_with fail
        go_meet
      · exact .inr ⟨rfl, HM.out, ST0.out.one HA.out HB.out (Nat.zero_le _)⟩
      · exact .inl ⟨rfl, HM.out, ST0.out.one HA.out HB.out (sgn_h1 HM.out).1⟩
    case rest =>
      clear ST0
      go_upto_if 22 with (fail)
      go_cut [] (fun wx => Sc1 s w wx)
      case first => as_aux_lemma =>
        rcases hcut with ⟨rfl, hm, st⟩ | ⟨rfl, hm, st⟩
        · obtain ⟨c0, c1, c2, f0, f1', f2⟩ := ncs_at st.bN
          have ST := hide st
          have HM := hide hm
          clear st hm
          go_wp2_with fail
          go_meet
          exact ⟨1, true, (sgn_h1 HM.out).2, ST.out.setNeg true⟩
        · have ST := hide st
          have HM := hide hm
          clear st hm
          cases hm2 : hitL s 0 [43]
          all_goals
            have HM2 := hide hm2
            have st := ST.out
            clear hm2
            go_wp2_with fail
            refine (one_any ⟨#[43]⟩ s _ _ 0 _ _ HM2.out st.bA st.bS hs (by decide) (Nat.zero_le _)).mono ?_
            rintro e w1 ⟨rfl, ha, hb⟩
            have HA := hide ha
            have HB := hide hb
            clear ha hb
            go_wp2_with fail
            go_meet
          · exact ⟨0, false, sgn_h3 HM.out HM2.out, ST.out.one HA.out HB.out (Nat.zero_le _)⟩
          · exact ⟨1, false, (sgn_h2 HM2.out).2, ST.out.one HA.out HB.out (sgn_h2 HM2.out).1⟩
      case rest =>
        obtain ⟨k, neg, hsg, st⟩ := hcut
        have ST := hide st
        have SG := hide hsg
        clear st hsg
        go_upto_region 10 with (fail)
        have kle := ST.out.kle
        obtain ⟨d1, d2, d3⟩ := dgs_place s k kle
        have hbS := ST.out.bS
        have hbA := ST.out.bA
        have DG := hide (fun W hA hS => dgt_any s (w.heap.size + 1 + 1 + 1) w.heap.size k W (by omega) (box_lt hS) hA hS hs kle)
        obtain ⟨whole, hWh⟩ : ∃ l, dgs (s.data.toList.drop k) = l := ⟨_, rfl⟩
        rw [hWh] at d1 d3 DG
        have D3 := hide d3
        have HW := hide hWh
        clear d2 d3 hWh
        go_wp2_with fail
        refine (DG.out _ hbA hbS).mono ?_
        rintro e w1 ⟨rfl, ha, hb⟩
        have ST1 := hide (ST.out.one ha hb d1)
        clear ha hb hbS hbA ST DG
        go_upto_region 11 with (fail)
        by_cases hz : whole = []
        · as_aux_lemma =>
          subst hz
          have HR := hide (show readR s.data.toList = none from readR_dgs SG.out HW.out)
          have he := bs_nil_empty
          obtain ⟨c0, c1, c2, f0, f1', f2⟩ := ncs_at ST1.out.bN
          obtain ⟨z0, z1, z2, g0, g1, g2⟩ := ncs_at ST1.out.bR
          go_wp2_with fail
          generalize hW9 : World.setCell _ _ _ = W9
          obtain ⟨b9, x0, x1, x2⟩ := ST1.out.ret _ _ _ _ _ hW9
          exact bodyPost_ret (v := .tuple #[.agg #[.bool neg, .slice none 0 0, .int .i64 0], .bool false]) (by simp [results, Tryz.results133, go_sem, x0, x1, x2]) rfl ⟨⟨_, rfl, by unfold ScanP; rw [HR.out]; exact ⟨_, _, _, _, _, rfl⟩⟩, b9⟩
        · have he : (bs whole).toList.isEmpty = false := by
            rw [ByteArray.toList_eq]
            cases whole with
            | nil => exact absurd rfl hz
            | cons c r => simp [bs]
          have HZ := hide hz
          clear hz
          have hwl : whole.length ≤ 64 := by omega
          obtain ⟨c0, c1, c2, f0, f1', f2⟩ := ncs_at ST1.out.bN
          obtain ⟨i0, hi0, hz0, hz1, hz2⟩ := info_parts infoBy
          have hszw : (bs whole).size ≤ 64 := by rw [bs_size]; exact hwl
          have hw1 := box_lt ST1.out.bA
          go_upto_region 13 with (fail)
          go_upto_region 14 with (at_builtin; (refine Lib.wpList_append_own_string _ rfl _ _ 108 9 rfl (w.heap.size + 1 + 1 + 1 + 1) 5 i0 Tryz.underlying108 Tryz.underlying9 hi0 hz0 hz1 hz2 (.slice none 0 0) 0 [] rfl (World.ownsRow_nil _ _ _ 1) (bs whole) rfl (by simp only [maxLen]; omega) (by omega) (by omega) ?_); intro v' w3 hown3 hg3 _; obtain ⟨A3, c3, rfl, ho3⟩ := app_row (ds := []) hown3; have hbx := ncs_at (box_grown ST1.out.bN hg3 (by simp [Value.ownBlock])); obtain ⟨e0, e1, e2, u0, u1, u2⟩ := hbx)
          have ST2 := hide (show ScS w s neg A3 c3 whole 0 (k + whole.length) (w3.setCell ⟨w.heap.size + 1 + 1, 1, none⟩ (.slice A3 whole.length c3)) from ST1.out.app hg3 ho3)
          clear e0 e1 e2 u0 u1 u2 c0 c1 c2 f0 f1' f2 ST1 hown3 hg3 ho3 hw1 he
          generalize hW2 : World.setCell _ _ _ = W2 at ST2 ⊢
          obtain ⟨k1, hk1⟩ : ∃ k1, k + whole.length = k1 := ⟨_, rfl⟩
          rw [hk1] at ST2 D3 d1
          clear hk1 hW2
          go_cut [37] (fun b wx => ScT [46] s w neg A3 c3 whole 0 k1 b wx)
          case first => as_aux_lemma =>
            have st := ST2.out
            cases hm : hitL s k1 [46]
            all_goals
              have HM := hide hm
              clear hm
              go_wp2_with fail
              refine (one_any ⟨#[46]⟩ s _ _ k1 _ _ HM.out st.bA st.bS hs (by decide) st.kle).mono ?_
              rintro e w1 ⟨rfl, ha, hb⟩
              have HA := hide ha
              have HB := hide hb
              clear ha hb
              go_wp2_with fail
              go_meet
            · exact .inr ⟨rfl, HM.out, ST2.out.one HA.out HB.out ST2.out.kle⟩
            · exact .inl ⟨rfl, HM.out, ST2.out.one HA.out HB.out (frac_h1 HM.out).1⟩
          case rest =>
            clear ST2
            go_upto_if 37 with (fail)
            go_cut [] (fun wx => Sc2 s w neg whole k1 wx)
            case first => as_aux_lemma =>
              rcases hcut with ⟨rfl, hm, st⟩ | ⟨rfl, hm, st⟩
              · have FR := hide (frac_h1 hm).2
                have kle1 := st.kle
                have hbS := st.bS
                have hbA := st.bA
                have ST := hide st
                clear st hm
                obtain ⟨q1, q2, q3⟩ := dgs_place s (k1 + 1) kle1
                have DG := hide (fun W hA hS => dgt_any s (w.heap.size + 1 + 1 + 1) w.heap.size (k1 + 1) W (by omega) (box_lt hS) hA hS hs kle1)
                obtain ⟨part, hPt⟩ : ∃ l, dgs (s.data.toList.drop (k1 + 1)) = l := ⟨_, rfl⟩
                rw [hPt] at q1 q3 DG FR
                rw [q3] at FR
                clear q2 q3 hPt
                go_wp2_with fail
                refine (DG.out _ hbA hbS).mono ?_
                rintro e w1 ⟨rfl, ha, hb⟩
                have ST1 := hide (ST.out.one ha hb q1)
                clear ha hb hbS hbA ST DG
                go_upto_region 16 with (fail)
                by_cases hz : part = []
                · as_aux_lemma =>
                  have HR := hide (show readR s.data.toList = none from readR_frac SG.out (by rw [D3.out, FR.out, if_pos hz]))
                  subst hz
                  have he := bs_nil_empty
                  obtain ⟨c0, c1, c2, f0, f1', f2⟩ := ncs_at ST1.out.bN
                  obtain ⟨z0, z1, z2, g0, g1, g2⟩ := ncs_at ST1.out.bR
                  go_wp2_with fail
                  generalize hW9 : World.setCell _ _ _ = W9
                  obtain ⟨b9, x0, x1, x2⟩ := ST1.out.ret _ _ _ _ _ hW9
                  exact bodyPost_ret (v := .tuple #[.agg #[.bool neg, .slice A3 whole.length c3, .int .i64 0], .bool false]) (by simp [results, Tryz.results133, go_sem, x0, x1, x2]) rfl ⟨⟨_, rfl, by unfold ScanP; rw [HR.out]; exact ⟨_, _, _, _, _, rfl⟩⟩, b9⟩
                · as_aux_lemma =>
                  have HF := hide (show fracR (s.data.toList.drop k1) = some (part, s.data.toList.drop (k1 + 1 + part.length)) by rw [FR.out, if_neg hz])
                  have he : (bs part).toList.isEmpty = false := by
                    rw [ByteArray.toList_eq]
                    cases part with
                    | nil => exact absurd rfl hz
                    | cons c r => simp [bs]
                  clear hz FR
                  have hpl : part.length ≤ 64 := by omega
                  obtain ⟨c0, c1, c2, f0, f1', f2⟩ := ncs_at ST1.out.bN
                  have hszp : (bs part).size ≤ 64 := by rw [bs_size]; exact hpl
                  have hszq : (bs part).size = part.length := bs_size part
                  have hw1 := box_lt ST1.out.bA
                  go_upto_region 18 with (fail)
                  go_upto_region 19 with (at_builtin; (refine Lib.wpList_append_own_string _ rfl _ _ 108 9 rfl (w.heap.size + 1 + 1 + 1 + 1) 5 i0 Tryz.underlying108 Tryz.underlying9 hi0 hz0 hz1 hz2 (.slice A3 whole.length c3) whole.length (whole.map bv) rfl ST1.out.own (bs part) rfl (by simp only [maxLen]; omega) (by omega) (by omega) ?_); intro v' w3 hown3 hg3 _; obtain ⟨A4, c4, rfl, ho4⟩ := app_row hown3; rw [ob_eq] at hg3; have hbx := ncs_at (box_grown ST1.out.bN hg3 (fun e => by have := (ST1.out.ownlt e).1; omega)); obtain ⟨e0, e1, e2, u0, u1, u2⟩ := hbx)
                  have ST3 := hide (show ScS w s neg A4 c4 (whole ++ part) 0 (k1 + 1 + part.length) (w3.setCell ⟨w.heap.size + 1 + 1, 1, none⟩ (.slice A4 (whole.length + part.length) c4)) by have h := ST1.out.app hg3 ho4; rw [show (whole ++ part).length = whole.length + part.length from List.length_append] at h; exact h)
                  clear e0 e1 e2 u0 u1 u2 c0 c1 c2 f0 f1' f2 ST1 hown3 hg3 ho4 hw1 he
                  generalize hW3 : World.setCell _ _ _ = W3 at ST3 ⊢
                  clear hW3
                  obtain ⟨c0, c1, c2, f0, f1', f2⟩ := ncs_at ST3.out.bN
                  go_wp2_with fail
                  go_meet
                  exact ⟨k1 + 1 + part.length, part, A4, c4, HF.out, hpl, ST3.out.setE _⟩
              · have HF := hide (frac_h2 hm)
                have ST := hide st
                clear st hm
                go_wp2_with fail
                go_meet
                exact ⟨k1, [], A3, c3, HF.out, by simp, by rw [List.append_nil]; exact ST.out⟩
            case rest =>
              obtain ⟨k2, fs, A4, c4, hfr, hfl, st⟩ := hcut
              have FR := hide hfr
              have ST := hide st
              clear hfr st
              have he0 : -64 ≤ -(fs.length : Int) := by omega
              have he1 : -(fs.length : Int) ≤ 0 := by omega
              obtain ⟨ds, hds⟩ : ∃ ds, whole ++ fs = ds := ⟨_, rfl⟩
              have hdl : ds.length ≤ 128 := by rw [← hds, List.length_append]; omega
              have hdne : ds ≠ [] := by rw [← hds]; exact fun h => HZ.out (List.append_eq_nil_iff.1 h).1
              have hdn : (ds.length : Int) = whole.length + fs.length := by rw [← hds, List.length_append]; omega
              rw [hds] at ST
              have HDS := hide hds
              have HDN := hide hdn
              have HNE := hide hdne
              clear hds hdn hdne
              obtain ⟨ee, hee⟩ : ∃ ee, -(fs.length : Int) = ee := ⟨_, rfl⟩
              rw [hee] at ST he0 he1
              have HEE := hide hee
              clear hee
              go_upto_region 20 with (fail)
              go_cut [53] (fun b wx => ScT [101, 69] s w neg A4 c4 ds ee k2 b wx)
              case first => as_aux_lemma =>
                have st := ST.out
                cases hm : hitL s k2 [101, 69]
                all_goals
                  have HM := hide hm
                  clear hm
                  go_wp2_with fail
                  refine (one_any ⟨#[101, 69]⟩ s _ _ k2 _ _ HM.out st.bA st.bS hs (by decide) st.kle).mono ?_
                  rintro e w1 ⟨rfl, ha, hb⟩
                  have HA := hide ha
                  have HB := hide hb
                  clear ha hb
                  go_wp2_with fail
                  go_meet
                · exact .inr ⟨rfl, HM.out, ST.out.one HA.out HB.out ST.out.kle⟩
                · exact .inl ⟨rfl, HM.out, ST.out.one HA.out HB.out (exp_h1 HM.out).1⟩
              case rest =>
                clear ST
                go_upto_if 53 with (fail)
                go_cut [] (fun wx => Sc3 s w neg A4 c4 ds ee k2 wx)
                case first => as_aux_lemma =>
                  rcases hcut with ⟨rfl, hm, st⟩ | ⟨rfl, hm, st⟩
                  · have EX := hide (exp_h1 hm).2
                    have ST := hide st
                    clear st hm
                    go_upto_region 21 with (fail)
                    go_cut [10] (fun b wx => ScU [45] s w neg A4 c4 ds ee (k2 + 1) b wx)
                    case first => as_aux_lemma =>
                      have st := ST.out
                      obtain ⟨m, hm⟩ : ∃ m, hitL s (k2 + 1) [45] = m := ⟨_, rfl⟩
                      have HM := hide hm
                      clear hm
                      go_wp2_with fail
                      refine (one_any ⟨#[45]⟩ s _ _ (k2 + 1) _ m HM.out st.bA st.bS hs (by decide) st.kle).mono ?_
                      rintro e w1 ⟨rfl, ha, hb⟩
                      have HA := hide ha
                      have HB := hide hb
                      clear ha hb
                      go_wp2_with fail
                      go_meet
                      refine ⟨m, rfl, HM.out, ST.out.one HA.out HB.out ?_⟩
                      cases m
                      · exact ST.out.kle
                      · exact (sgn_h1 HM.out).1
                    case rest =>
                      obtain ⟨m, rfl, hm, st⟩ := hcut
                      have ST2 := hide st
                      have HM := hide hm
                      clear st hm ST
                      go_upto_if 57 with (fail)
                      go_cut [] (fun wx => ScV s w neg A4 c4 ds ee (k2 + 1) m wx)
                      case first => as_aux_lemma =>
                        cases m
                        · have st : ScS w s neg A4 c4 ds ee (k2 + 1) _ := ST2.out
                          cases hm2 : hitL s (k2 + 1) [43]
                          all_goals
                            have HM2 := hide hm2
                            clear hm2
                            go_wp2_with fail
                            refine (one_any ⟨#[43]⟩ s _ _ (k2 + 1) _ _ HM2.out st.bA st.bS hs (by decide) st.kle).mono ?_
                            rintro e w1 ⟨rfl, ha, hb⟩
                            have HA := hide ha
                            have HB := hide hb
                            clear ha hb
                            go_wp2_with fail
                            go_meet
                          · exact ⟨k2 + 1, sgn_h3 HM.out HM2.out, st.one HA.out HB.out st.kle⟩
                          · exact ⟨k2 + 2, (sgn_h2 HM2.out).2, st.one HA.out HB.out (sgn_h2 HM2.out).1⟩
                        · go_wp2_with fail
                          go_meet
                          exact ⟨k2 + 2, (sgn_h1 HM.out).2, ST2.out⟩
                      case rest =>
                        clear ST2 HM
                        obtain ⟨k4, hsg4, st⟩ := hcut
                        have SG4 := hide hsg4
                        have ST := hide st
                        clear hsg4
                        rw [SG4.out] at EX
                        have kle4 := st.kle
                        have hbS := st.bS
                        have hbA := st.bA
                        clear st
                        obtain ⟨q1, q2, q3⟩ := dgs_place s k4 kle4
                        have DG := hide (fun W hA hS => dgt_any s (w.heap.size + 1 + 1 + 1) w.heap.size k4 W (by omega) (box_lt hS) hA hS hs kle4)
                        have GT := hide (fun k h1 h2 => dgs_get s k4 k h1 h2)
                        obtain ⟨es, hEs⟩ : ∃ l, dgs (s.data.toList.drop k4) = l := ⟨_, rfl⟩
                        rw [hEs] at q1 q3 DG GT
                        have EX2 := hide (show expR (s.data.toList.drop k2) = if es = [] then none else some (m, es, s.data.toList.drop (k4 + es.length)) by rw [EX.out]; dsimp only; rw [hEs, q3])
                        clear q2 q3 hEs EX
                        go_upto_region 24 with (fail)
                        go_wp2_with fail
                        refine (DG.out _ hbA hbS).mono ?_
                        rintro e w1 ⟨rfl, ha, hb⟩
                        have ST1 := hide (ST.out.one ha hb q1)
                        clear ha hb hbS hbA ST DG
                        go_upto_region 25 with (fail)
                        by_cases hz : es = []
                        · as_aux_lemma =>
                          have HR := hide (show readR s.data.toList = none from readR_exp SG.out (by rw [D3.out]; exact FR.out) (by rw [EX2.out, if_pos hz]))
                          subst hz
                          have he := bs_nil_empty
                          obtain ⟨c0, c1, c2, f0, f1', f2⟩ := ncs_at ST1.out.bN
                          obtain ⟨z0, z1, z2, g0, g1, g2⟩ := ncs_at ST1.out.bR
                          go_wp2_with fail
                          generalize hW9 : World.setCell _ _ _ = W9
                          obtain ⟨b9, x0, x1, x2⟩ := ST1.out.ret _ _ _ _ _ hW9
                          exact bodyPost_ret (v := .tuple #[.agg #[.bool neg, .slice A4 ds.length c4, .int .i64 ee], .bool false]) (by simp [results, Tryz.results133, go_sem, x0, x1, x2]) rfl ⟨⟨_, rfl, by unfold ScanP; rw [HR.out]; exact ⟨_, _, _, _, _, rfl⟩⟩, b9⟩
                        · as_aux_lemma =>
                          have HX := hide (show expR (s.data.toList.drop k2) = some (m, es, s.data.toList.drop (k4 + es.length)) by rw [EX2.out, if_neg hz])
                          have he : (bs es).toList.isEmpty = false := by
                            rw [ByteArray.toList_eq]
                            cases es with
                            | nil => exact absurd rfl hz
                            | cons c r => simp [bs]
                          clear hz EX2
                          have hel : es.length ≤ 64 := by omega
                          have hesz : (bs es).size = es.length := bs_size es
                          obtain ⟨WB, C, hcv, hzB, hbB, hcB⟩ := conv_bytes w1 (bs es)
                          have ST5 := hide (ST1.out.below hbB)
                          have hcl : w1.heap.size < WB.heap.size := by omega
                          have HCB := hide hcB
                          rw [hesz] at hcv
                          clear hcB hbB hzB ST1
                          go_wp2_with fail
                          obtain ⟨c0, c1, c2, f0, f1', f2⟩ := ncs_at ST5.out.bN
                          go_loop [12, 68] (fun ev iv => ExR es ev iv) (fun _ iv => es.length - (intOf iv).toNat)
                          case atStart => exact ⟨0, Nat.zero_le _, rfl, rfl⟩
                          case round => as_aux_lemma =>
                            obtain ⟨k, hk, rfl, rfl⟩ := hrel
                            have hle := clampE_le 1048576 (es.take k)
                            by_cases hkl : k < es.length
                            · have hek : k4 + k < s.size := by omega
                              obtain ⟨hg1, hg2, hg3⟩ := GT.out k hkl hek
                              have hcell := HCB.out k s[k4 + k] (by simpa [bs] using hg1)
                              have HT := hide (show clampE 1048576 (es.take (k + 1)) = min 1048576 (10 * clampE 1048576 (es.take k) + dv s[k4 + k]) by
                                rw [List.take_add_one, hg1]; exact clampE_snoc _ _ _)
                              clear hg1
                              generalize clampE 1048576 (es.take k) = E at *
                              go_wp2_with fail
                              refine ⟨⟨k + 1, by omega, by go_num, ?_⟩, by simp [intOf]; omega⟩
                              rw [HT.out]
                              exact congrArg (Value.int .i64) (by unfold dv; omega)
                            · have hke : k = es.length := by omega
                              subst hke
                              rw [List.take_length] at hle ⊢
                              generalize hEv : clampE 1048576 es = E at *
                              have HEv := hide hEv
                              clear hEv
                              cases m
                              all_goals
                                go_wp2_with fail
                                go_meet
                              · exact ⟨k4 + es.length, false, es, HX.out, by rw [HEv.out]; exact ST5.out.setE _⟩
                              · exact ⟨k4 + es.length, true, es, HX.out, by rw [HEv.out]; exact ST5.out.setE _⟩
                  · have HF := hide (exp_h2 hm)
                    have ST := hide st
                    clear st hm
                    go_wp2_with fail
                    go_meet
                    exact ⟨k2, false, [], HF.out, by have := ST.out; simpa [clampE] using this⟩
                case rest =>
                  obtain ⟨k3, dn, es, hex, st⟩ := hcut
                  have EX := hide hex
                  have ST := hide st
                  clear hex st
                  have hcl := clampE_le 1048576 es
                  obtain ⟨ef, hef⟩ : ∃ ef, ee + (if dn then -(clampE 1048576 es : Int) else (clampE 1048576 es : Int)) = ef := ⟨_, rfl⟩
                  have hef0 : -2000000 ≤ ef := by rw [← hef]; split <;> omega
                  have hef1 : ef ≤ 2000000 := by rw [← hef]; split <;> omega
                  rw [hef] at ST
                  have HEF := hide (show ef + ds.length - 1 = (whole.length : Int) - 1 + expV 1048576 ⟨neg, whole, fs, dn, es⟩ by
                    have := HEE.out
                    have := HDN.out
                    unfold expV
                    dsimp only
                    rw [← hef]
                    omega)
                  clear hef hcl
                  have HR0 := hide (readR_end (by simpa using h64) SG.out (by rw [HW.out]; exact HZ.out) (by rw [D3.out]; exact FR.out) EX.out)
                  obtain ⟨hby, hcp, hcb⟩ := own_bytes ST.out.own HNE.out
                  have HBY := hide hby
                  have HTR := hide (fun W (h : BytesAt W A4 ds) => trim_num neg A4 c4 ds ef W HNE.out (by omega) hcp hcb h hef0 hef1)
                  clear hby
                  go_upto_region 36 with (fail)
                  generalize hdd : nrm neg ds (ef + ds.length - 1) = dd at HTR
                  have HDD := hide hdd
                  clear hdd
                  have HT2 := hide (fun W (h : BytesAt W A4 ds) => (HTR.out W h).mono (R' := fun e w' => TrimP dd e w' ∧ Below W.heap.size W w') (fun e w' h' => by
                    obtain ⟨⟨v, he, A9, c9, hv, h1, h2, h3⟩, h4⟩ := h'
                    exact ⟨⟨A9, c9, by rw [he, hv]; rfl, h1, h2, h3⟩, h4⟩))
                  unfold nv at HT2
                  have kk : ∀ W, ScS w s neg A4 c4 ds ef k3 W → (W.cell? ⟨w.heap.size, 0, none⟩ = some (.string s) ∧ W.cell? ⟨w.heap.size + 1 + 1, 0, none⟩ = some (.bool neg) ∧ W.cell? ⟨w.heap.size + 1 + 1, 1, none⟩ = some (.slice A4 ds.length c4) ∧ W.cell? ⟨w.heap.size + 1 + 1, 2, none⟩ = some (.int .i64 ef) ∧ W.cell? ⟨w.heap.size + 1 + 1 + 1, 0, none⟩ = some (.int .i64 (k3 : Int))) := fun W h => by
                    obtain ⟨c0, c1, c2, _⟩ := ncs_at h.bN
                    exact ⟨(strO_at h.bS).1, c0, c1, c2, (atO_at h.bA).1⟩
                  have ST0 : ScS w s neg A4 c4 ds ef k3 wc.drew := ST.out.below (below_drew (Below.refl _ _))
                  have k0 := kk _ ST0
                  have KK := hide kk
                  have STD := hide ST0
                  have HB0 := hide (own_bytes ST0.own HNE.out).1
                  obtain ⟨t3v, ht3⟩ : ∃ t3v, ((k3 : Int) == (s.size : Int)) = t3v := ⟨_, rfl⟩
                  clear kk ST0
                  go_region_held3 (fun wx => wx.cell? ⟨w.heap.size, 0, none⟩ = some (.string s) ∧ wx.cell? ⟨w.heap.size + 1 + 1, 0, none⟩ = some (.bool neg) ∧ wx.cell? ⟨w.heap.size + 1 + 1, 1, none⟩ = some (.slice A4 ds.length c4) ∧ wx.cell? ⟨w.heap.size + 1 + 1, 2, none⟩ = some (.int .i64 ef) ∧ wx.cell? ⟨w.heap.size + 1 + 1 + 1, 0, none⟩ = some (.int .i64 (k3 : Int)))
                    (first | (with_reducible assumption) | exact k0 | exact k1 | exact ⟨(set3_cell (by omega) _ _ _).trans k1.1, (set3_cell (by omega) _ _ _).trans k1.2.1, (set3_cell (by omega) _ _ _).trans k1.2.2.1, (set3_cell (by omega) _ _ _).trans k1.2.2.2.1, (set3_cell (by omega) _ _ _).trans k1.2.2.2.2⟩)
                    (first
                      | (go_at_call 193; refine (HT2.out wc.drew HB0.out).mono ?_; rintro e w1 ⟨⟨A9, c9, rfl, hb9, hl9, hc9⟩, b1⟩; have STE := hide (STD.out.below b1); have k1 := KK.out _ STE.out; obtain ⟨z0, z1, z2, g0, g1, g2⟩ := ncs_at STE.out.bR; have HB9 := hide hb9; clear hb9))
                  generalize hW9 : World.setCell _ _ _ = W9
                  obtain ⟨b9, x0, x1, x2⟩ := STE.out.ret _ _ _ _ _ hW9
                  have hby9 : BytesAt W9 A9 dd.ds := keep_ncs STE.out.bR HB9.out (fun b hb => by rw [← hW9]; exact ((set_other hb).trans (set_other hb)).trans (set_other hb))
                  go_wp2_with fail
                  by_cases h3 : k3 = s.size
                  · have HR : readR s.data.toList = some ⟨neg, whole, fs, dn, es⟩ := by rw [HR0.out, HW.out, if_pos (List.drop_of_length_le (by simp; omega))]
                    have ht : t3v = true := by rw [← ht3, h3]; exact beq_self_eq_true _
                    subst ht
                    refine bodyPost_ret (v := .tuple #[.agg #[.bool dd.neg, .slice A9 dd.ds.length c9, .int .i64 (expD dd)], .bool true]) (by simp [results, Tryz.results133, go_sem, x0, x1, x2]) rfl ⟨⟨_, rfl, ?_⟩, b9⟩
                    unfold ScanP
                    rw [HR]
                    refine ⟨_, rfl, ?_⟩
                    have hdec : decOf 1048576 ⟨neg, whole, fs, dn, es⟩ = dd := by
                      unfold decOf
                      dsimp only
                      rw [HDS.out, ← HEF.out, HDD.out]
                    rw [hdec]
                    exact ⟨A9, c9, rfl, hby9, hl9, hc9⟩
                  · have HR : readR s.data.toList = none := by rw [HR0.out, if_neg (fun e => by have := congrArg List.length e; simp at this; have := ST.out.kle; omega)]
                    have ht : t3v = false := by rw [← ht3]; exact beq_eq_false_iff_ne.2 (by omega)
                    subst ht
                    refine bodyPost_ret (v := .tuple #[.agg #[.bool dd.neg, .slice A9 dd.ds.length c9, .int .i64 (expD dd)], .bool false]) (by simp [results, Tryz.results133, go_sem, x0, x1, x2]) rfl ⟨⟨_, rfl, ?_⟩, b9⟩
                    unfold ScanP
                    rw [HR]
                    exact ⟨_, _, _, _, _, rfl⟩

end Go.Proofs.YtdlebcijgdkfjaaGreatDoor

/-
  cmp.Compare at ints.
-/
namespace Go.Proofs.YtdlebcijgdkfjaaGreatDoor
open Go.RowKit

set_option maxRecDepth 100000 in
theorem isNaN_int (a : Int) (w : World) : Calls Tryz.prog 196 #[.int .i64 a] w fun r w' => r = .returned (.bool false) ∧ w = w' := by
  have t : (a != a) = false := by simp
  go_enter Tryz.func196, Tryz.ntmps196
  go_wp2_with fail
  go_ret
  exact ⟨by simp, rfl⟩
set_option maxRecDepth 100000 in
theorem cmpInt_any (a b : Int) (w : World) : Calls Tryz.prog 135 #[.int .i64 a, .int .i64 b] w fun r w' => r = .returned (.int .i64 (cmpI a b)) ∧ w = w' := by
  by_cases h1 : a < b
  · have HC := hide (show cmpI a b = -1 by unfold cmpI; rw [if_pos h1])
    go_enter Tryz.func135, Tryz.ntmps135
    go_wp2_with fail
    refine (isNaN_int _ _).mono ?_
    rintro e w1 ⟨rfl, rfl⟩
    go_wp2_with fail
    refine (isNaN_int _ _).mono ?_
    rintro e w1 ⟨rfl, rfl⟩
    go_wp2_with fail
    go_ret
    exact ⟨by rw [HC.out]; rfl, rfl⟩
  · by_cases h2 : b < a
    · have HC := hide (show cmpI a b = 1 by unfold cmpI; rw [if_neg h1, if_pos h2])
      go_enter Tryz.func135, Tryz.ntmps135
      go_wp2_with fail
      refine (isNaN_int _ _).mono ?_
      rintro e w1 ⟨rfl, rfl⟩
      go_wp2_with fail
      refine (isNaN_int _ _).mono ?_
      rintro e w1 ⟨rfl, rfl⟩
      go_wp2_with fail
      go_ret
      exact ⟨by rw [HC.out]; rfl, rfl⟩
    · have HC := hide (show cmpI a b = 0 by unfold cmpI; rw [if_neg h1, if_neg h2])
      go_enter Tryz.func135, Tryz.ntmps135
      go_wp2_with fail
      refine (isNaN_int _ _).mono ?_
      rintro e w1 ⟨rfl, rfl⟩
      go_wp2_with fail
      refine (isNaN_int _ _).mono ?_
      rintro e w1 ⟨rfl, rfl⟩
      go_wp2_with fail
      go_ret
      exact ⟨by rw [HC.out]; rfl, rfl⟩

end Go.Proofs.YtdlebcijgdkfjaaGreatDoor
