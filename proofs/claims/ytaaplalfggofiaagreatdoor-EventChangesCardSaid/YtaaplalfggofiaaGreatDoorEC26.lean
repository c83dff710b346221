/-
  Several texts in one: Agr, CRowsM. Each says at its head what it holds.
-/
import Derived.Test.YtaaplalfggofiaaGreatDoorEC14
import Derived.Test.YtaaplalfggofiaaGreatDoorEC22
import Derived.Test.YtaaplalfggofiaaGreatDoorEC24
import Derived.Test.YtaaplalfggofiaaGreatDoorEC25
import Derived.Test.YtaaplalfggofiaaGreatDoorEC17

/-
  condition.agrees: whether all nodes of a signal have a kind and a width.
-/
namespace Go.Proofs.YtaaplalfggofiaaGreatDoor
open Go.RowKit

theorem agrF_mk (x k w : Int) (kind at_ : Int) (name value : ByteArray) (a b c d : Int) (KA : Option Addr) (kc : Nat) (kids : List Nd) : agrF x k w (.mk kind at_ name value a b c d KA kc kids) =
    (!(decide (kind = 1) && decide (a = x) && (decide (c ≠ k) || decide (b ≠ w))) && kids.all (agrF x k w)) := agrF_eq x k w _
def intO (z : Int) : Obj := .cells #[.int .i64 z] 3 (0, 0)
structure AgBox (w : World) (B1 B2 B3 : Nat) (x k d : Int) : Prop where
  h1 : w.heap[B1]? = some (intO x)
  h2 : w.heap[B2]? = some (intO k)
  h3 : w.heap[B3]? = some (intO d)
theorem AgBox.below {w w' : World} {B1 B2 B3 : Nat} {x k d : Int} (h : AgBox w B1 B2 B3 x k d) (hb : Below w.heap.size w w') : AgBox w' B1 B2 B3 x k d :=
  ⟨(hb.block _ (box_lt h.h1)).trans h.h1, (hb.block _ (box_lt h.h2)).trans h.h2, (hb.block _ (box_lt h.h3)).trans h.h3⟩
theorem chain4 (w : World) (o0 o1 o2 o3 : Obj) {W : World} (hW : (((w.alloc o0).alloc o1).alloc o2).alloc o3 = W) : W.heap[w.heap.size]? = some o0 ∧ W.heap[w.heap.size + 1]? = some o1 ∧ W.heap[w.heap.size + 1 + 1]? = some o2 ∧ W.heap[w.heap.size + 1 + 1 + 1]? = some o3 ∧ Below w.heap.size w W := by
  subst hW
  have s1 : (w.alloc o0).heap.size = w.heap.size + 1 := World.size_alloc _ _
  have s2 : ((w.alloc o0).alloc o1).heap.size = w.heap.size + 1 + 1 := by rw [World.size_alloc, s1]
  have s3 : (((w.alloc o0).alloc o1).alloc o2).heap.size = w.heap.size + 1 + 1 + 1 := by rw [World.size_alloc, s2]
  have n0 := heap_alloc_new w o0
  have n1 := heap_alloc_new (w.alloc o0) o1
  have n2 := heap_alloc_new ((w.alloc o0).alloc o1) o2
  have n3 := heap_alloc_new (((w.alloc o0).alloc o1).alloc o2) o3
  rw [s1] at n1
  rw [s2] at n2
  rw [s3] at n3
  exact ⟨box_alloc (box_alloc (box_alloc n0)), box_alloc (box_alloc n1), box_alloc n2, n3,
    (((((Below.refl _ _).alloc (Nat.le_refl _) _).alloc (by omega) _).alloc (by omega) _).alloc (by omega) _)⟩
def AgrC (x k d : Int) (n : Nd) : Prop := ∀ w : World, TreesAt w (Lo w.heap.size) n.KA n.kids → Calls Tryz.prog 130 #[.agg (cNd n).toArray, .int .i64 x, .int .i64 k, .int .i64 d] w (RetV (.bool (agrF x k d n)) w)

set_option maxRecDepth 100000 in
theorem agr1_any (x k d : Int) (n : Nd) (ih : AgrC x k d n) (B1 B2 B3 : Nat) (w : World) (ht : TreesAt w (Lo w.heap.size) n.KA n.kids) (hb : AgBox w B1 B2 B3 x k d) :
    Calls Tryz.prog 191 #[.agg (cNd n).toArray, .pointer (some ⟨B1, 0, none⟩), .pointer (some ⟨B2, 0, none⟩), .pointer (some ⟨B3, 0, none⟩)] w (RetV (.bool (!agrF x k d n)) w) := by
  obtain ⟨W0, hW0⟩ : ∃ W0, w.alloc (.cells (cNd n).toArray 28) = W0 := ⟨_, rfl⟩
  have g0 := new_at hW0
  have hb0 : Below w.heap.size w W0 := by rw [← hW0]; exact (Below.refl _ _).alloc (Nat.le_refl _) _
  have hcall := ih W0 (ht.grow hb0)
  have hbx := hb.below hb0
  generalize agrF x k d n = r at *
  obtain ⟨m1, m2, m3, m4, m5, m6, m7, m8, mK, mc, ml⟩ := n
  unfold cNd at hcall hW0 g0 ⊢
  have HC := hide hcall
  have HW0 := hide hW0
  have HB0 := hide hb0
  obtain ⟨y0, y1, y2, y3, y4, y5, y6, y7, y8⟩ := box9 g0
  have z1 := box_cell hbx.h1
  have z2 := box_cell hbx.h2
  have z3 := box_cell hbx.h3
  clear hcall hW0 g0 hb0 ht ih hb hbx
  go_enter Tryz.func191, Tryz.ntmps191
  go_upto_region 1 with (fail)
  rw [HW0.out]
  go_wp2_with (go_at_call 130; refine HC.out.mono ?_; rintro e w2 ⟨rfl, hb2⟩; have HB2 := hide hb2; clear hb2)
  go_ret
  exact ⟨rfl, bstep HB0.out HB2.out⟩

def AiRel (x k d : Int) (l : List Nd) (w : World) (i : Value) (wr : World) : Prop := ∃ j : Nat, j ≤ l.length ∧ i = .int .i64 (j : Int) ∧ (l.take j).all (agrF x k d) = true ∧ Below w.heap.size w wr
def RetIdxN (w : World) (b : Bool) (e : Ending) (w' : World) : Prop := ∃ n : Int, e = .returned (.int .i64 n) ∧ decide (0 ≤ n) = !b ∧ Below w.heap.size w w'
set_option maxRecDepth 100000 in
set_option maxHeartbeats 4000000 in
theorem agrIdx_any (x k d : Int) (A : Option Addr) (c : Nat) (l : List Nd) (ih : ∀ n ∈ l, AgrC x k d n) (B1 B2 B3 : Nat) (w : World) (ht : TreesAt w (Lo w.heap.size) A l) (hb : AgBox w B1 B2 B3 x k d) :
    Calls Tryz.prog 201 #[.slice A l.length c, .func (.func 191) #[] #[.pointer (some ⟨B1, 0, none⟩), .pointer (some ⟨B2, 0, none⟩), .pointer (some ⟨B3, 0, none⟩)]] w (RetIdxN w (l.all (agrF x k d))) := by
  have hl := ht.len
  have HT := hide ht
  have HB := hide hb
  have HIH := hide ih
  clear ht hb ih
  go_enter Tryz.func201, Tryz.ntmps201
  go_wp2_with fail
  go_loopw [8] (fun i wr => AiRel x k d l w i wr) (fun i _ => l.length - (intOf i).toNat)
  case atStart => exact ⟨0, Nat.zero_le _, rfl, rfl, Below.refl _ _⟩
  case round =>
    obtain ⟨j, hj, rfl, hok, hbr⟩ := hrel
    have HOK := hide hok
    have HBR := hide hbr
    clear hok hbr
    by_cases hlt : j < l.length
    · have hT := HT.out.grow HBR.out
      obtain ⟨bk, ok, rfl, hbk, hc⟩ := hT.row.at_ hlt
      have hmem := List.getElem_mem hlt
      have hkid := hT.each _ hmem
      have hcall := agr1_any x k d _ (HIH.out _ hmem) B1 B2 B3 wr hkid (HB.out.below HBR.out)
      have HTK := hide (show (l.take (j + 1)).all (agrF x k d) = ((l.take j).all (agrF x k d) && agrF x k d l[j]) by rw [List.take_succ_eq_append_getElem hlt, List.all_append]; simp)
      have HBAD := hide (show agrF x k d l[j] = false → l.all (agrF x k d) = false from fun h => by
        rw [List.all_eq_false]
        exact ⟨_, hmem, by simp [h]⟩)
      generalize l[j] = q at *
      generalize agrF x k d q = r at *
      obtain ⟨n1, n2, n3, n4, n5, n6, n7, n8, nK, nc, nl⟩ := q
      unfold cNd at hc hcall
      obtain ⟨c0, c1, c2, c3, c4, c5, c6, c7, c8⟩ := nine hc
      have HC := hide hcall
      clear hc hkid hmem hT hcall
      cases r with
      | true =>
        have HN := hide (show (l.take (j + 1)).all (agrF x k d) = true by rw [HTK.out, HOK.out]; rfl)
        clear HTK HBAD
        go_wp2_with (go_at_call 191; refine HC.out.mono ?_; rintro e w2 ⟨rfl, hb2⟩; have HB2 := hide hb2; clear hb2)
        exact ⟨⟨j + 1, hlt, by go_num, HN.out, bstep HBR.out HB2.out⟩, by simp [intOf]; omega⟩
      | false =>
        have HN := hide (HBAD.out rfl)
        clear HTK HBAD
        go_wp2_with (go_at_call 191; refine HC.out.mono ?_; rintro e w2 ⟨rfl, hb2⟩; have HB2 := hide hb2; clear hb2)
        go_ret
        exact ⟨j, rfl, by rw [HN.out]; exact decide_eq_true (by omega), bstep HBR.out HB2.out⟩
    · have hke : j = l.length := by omega
      have HE := hide (show l.all (agrF x k d) = true by have := HOK.out; rw [hke, List.take_length] at this; exact this)
      clear hke
      go_wp2_with fail
      go_ret
      exact ⟨-1, rfl, by rw [HE.out]; rfl, HBR.out⟩
theorem agrHas_any (x k d : Int) (A : Option Addr) (c : Nat) (l : List Nd) (ih : ∀ n ∈ l, AgrC x k d n) (B1 B2 B3 : Nat) (w : World) (ht : TreesAt w (Lo w.heap.size) A l) (hb : AgBox w B1 B2 B3 x k d) :
    Calls Tryz.prog 143 #[.slice A l.length c, .func (.func 191) #[] #[.pointer (some ⟨B1, 0, none⟩), .pointer (some ⟨B2, 0, none⟩), .pointer (some ⟨B3, 0, none⟩)]] w (RetV (.bool (!l.all (agrF x k d))) w) := by
  go_enter Tryz.func143, Tryz.ntmps143
  go_wp2_with fail
  refine (agrIdx_any x k d A c l ih B1 B2 B3 _ ht hb).mono ?_
  rintro e w1 ⟨n, rfl, hn, hb1⟩
  have HN := hide hn
  clear hn
  go_wp2_with fail
  go_ret
  exact ⟨by rw [← HN.out]; rfl, hb1⟩

set_option maxRecDepth 100000 in
set_option maxHeartbeats 4000000 in
theorem agrees_any (x k d : Int) (n : Nd) : AgrC x k d n := by
  induction n using Nd.ind with
  | h n ih =>
  intro w ht
  have IH := hide ih
  clear ih
  obtain ⟨kind, at_, name, value, a, b, c, d', KA, kc, kids⟩ := n
  unfold Nd.KA Nd.kids at ht
  unfold cNd
  have hself := agrF_mk x k d kind at_ name value a b c d' KA kc kids
  have hl := ht.len
  obtain ⟨W0, hW0⟩ : ∃ W0, (((w.alloc (.cells #[.int .i64 kind, .int .i64 at_, .string name, .string value, .int .i64 a, .int .i64 b, .int .i64 c, .int .i64 d', .slice KA kids.length kc] 28)).alloc (intO x)).alloc (intO k)).alloc (intO d) = W0 := ⟨_, rfl⟩
  obtain ⟨p0, p1, p2, p3, hb0⟩ := chain4 _ _ _ _ _ hW0
  have HT := hide (ht.grow hb0)
  have HG0 := hide p0
  have HBX := hide (show AgBox W0 (w.heap.size + 1) (w.heap.size + 1 + 1) (w.heap.size + 1 + 1 + 1) x k d from ⟨p1, p2, p3⟩)
  have HB0 := hide hb0
  have HW0 := hide hW0
  obtain ⟨y0, y1, y2, y3, y4, y5, y6, y7, y8⟩ := box9 p0
  have z1 := box_cell p1
  have z2 := box_cell p2
  have z3 := box_cell p3
  have HKID := hide (agrHas_any x k d KA kc kids (fun m hm => IH.out m hm) _ _ _ W0 HT.out HBX.out)
  clear ht hb0 hW0 p0 p1 p2 p3
  have HQ := hide (show ∀ (o : Bool) (wr : World), agrF x k d (.mk kind at_ name value a b c d' KA kc kids) = o → Below W0.heap.size W0 wr → RetV (.bool (agrF x k d (.mk kind at_ name value a b c d' KA kc kids))) w (.returned (.bool o)) wr from fun o wr h hb => ⟨by rw [h], bstep HB0.out hb⟩)
  have HEQ := hide hself
  clear hself
  go_enter Tryz.func130, Tryz.ntmps130
  go_upto_region 1 with (fail)
  rw [show (((w.alloc (.cells #[.int .i64 kind, .int .i64 at_, .string name, .string value, .int .i64 a, .int .i64 b, .int .i64 c, .int .i64 d', .slice KA kids.length kc] 28)).alloc (.cells #[.int .i64 x] 3)).alloc (.cells #[.int .i64 k] 3)).alloc (.cells #[.int .i64 d] 3) = W0 from HW0.out]
  by_cases hbad : kind = 1 ∧ a = x ∧ (c ≠ k ∨ b ≠ d)
  · obtain ⟨rfl, rfl, hcd⟩ := hbad
    have HR := hide (HQ.out false W0 (HEQ.out.trans (by rcases hcd with h | h <;> simp [h])) (Below.refl _ _))
    clear HQ HEQ
    by_cases h1 : c = k
    · have h2 : b ≠ d := hcd.resolve_left (fun h => h h1)
      have T1 : (b != d) = true := by simp [h2]
      subst h1
      clear hcd h2
      go_wp2_with fail
      go_ret
      exact HR.out
    · have T1 : (c != k) = true := by simp [h1]
      clear hcd h1
      go_wp2_with fail
      go_ret
      exact HR.out
  · have HR := hide (fun wr hb => HQ.out (kids.all (agrF x k d)) wr (HEQ.out.trans (by
      have : (!(decide (kind = 1) && decide (a = x) && (decide (c ≠ k) || decide (b ≠ d)))) = true := by
        rw [Bool.not_eq_true', Bool.eq_false_iff]
        intro h
        rw [Bool.and_eq_true, Bool.and_eq_true, Bool.or_eq_true, decide_eq_true_eq, decide_eq_true_eq, decide_eq_true_eq, decide_eq_true_eq] at h
        exact hbad ⟨h.1.1, h.1.2, h.2⟩
      rw [this, Bool.true_and])) hb)
    clear HQ HEQ
    by_cases h1 : kind = 1
    · subst h1
      by_cases h2 : a = x
      · subst h2
        obtain ⟨h3, h4⟩ : c = k ∧ b = d := ⟨Classical.byContradiction fun h => hbad ⟨rfl, rfl, .inl h⟩, Classical.byContradiction fun h => hbad ⟨rfl, rfl, .inr h⟩⟩
        subst h3 h4
        clear hbad
        go_wp2_with (go_at_call 143; refine HKID.out.mono ?_; rintro e w2 ⟨rfl, hb2⟩; have HB2 := hide hb2; clear hb2)
        go_ret
        exact HR.out _ HB2.out
      · have T1 : (a == x) = false := beq_eq_false_iff_ne.2 h2
        clear hbad h2
        go_wp2_with (go_at_call 143; refine HKID.out.mono ?_; rintro e w2 ⟨rfl, hb2⟩; have HB2 := hide hb2; clear hb2)
        go_ret
        exact HR.out _ HB2.out
    · have T1 : (kind == 1) = false := beq_eq_false_iff_ne.2 h1
      clear hbad h1
      go_wp2_with (go_at_call 143; refine HKID.out.mono ?_; rintro e w2 ⟨rfl, hb2⟩; have HB2 := hide hb2; clear hb2)
      go_ret
      exact HR.out _ HB2.out

end Go.Proofs.YtaaplalfggofiaaGreatDoor

/-
  condition.rows in memory: the lists of spans so far, the source behind its calls.
-/
namespace Go.Proofs.YtaaplalfggofiaaGreatDoor
open Go.RowKit

/-- below a block, but for block M -/
def Un (M n b : Nat) : Prop := b < n ∧ b ≠ M
theorem stay_src {w W : World} {M : Nat} {v : Wv} {L c : Int} (h : SrcTo w M v L c W) : Stay (Un M w.heap.size) w W := fun b hb => h.2.block b hb.1 (fun e => by injection e with e; exact hb.2 e)
theorem un_lo {M n b : Nat} (h : Un M n b) : Lo n b := h.1
theorem tree_src {w W : World} {M : Nat} {v : Wv} {L c : Int} {A : Option Addr} {l : List Nd} (h : TreesAt w (Un M w.heap.size) A l) (hs : SrcTo w M v L c W) : TreesAt W (Un M W.heap.size) A l :=
  (h.stay (stay_src hs)).more fun _ hb => ⟨Nat.lt_of_lt_of_le hb.1 hs.2.size, hb.2⟩
theorem tree_below {w W : World} {M : Nat} {A : Option Addr} {l : List Nd} (h : TreesAt w (Un M w.heap.size) A l) (hb : Below w.heap.size w W) : TreesAt W (Un M W.heap.size) A l :=
  (h.stay (stay_below hb fun _ h => h.1)).more fun _ hb' => ⟨Nat.lt_of_lt_of_le hb'.1 hb.size, hb'.2⟩
theorem sig_nodes (n : Nd) : ((sigF n).length : Int) ≤ nodesF n := by
  induction n using Nd.ind with
  | h n ih =>
  rw [sigF_eq, nodesF_eq]
  unfold sigB
  have key : ∀ l : List Nd, (∀ k ∈ l, ((sigF k).length : Int) ≤ nodesF k) → (((l.map sigF).flatten.length : Nat) : Int) ≤ sumF (l.map nodesF) := by
    intro l
    induction l with
    | nil => intro _; simp [sumF]
    | cons k l ih2 =>
      intro h
      rw [List.map_cons, List.flatten_cons, List.length_append, List.map_cons, sumF_cons]
      have := h k (by simp)
      have := ih2 fun m hm => h m (by simp [hm])
      omega
  have := key _ ih
  rw [List.length_append]
  split <;> simp <;> simp at this <;> omega
/-- different numbers below a bound are few -/
theorem nodup_few : ∀ (m : Nat) {zs : List Int}, zs.Nodup → (∀ x ∈ zs, 0 ≤ x ∧ x < m) → zs.length ≤ m
  | 0, [], _, _ => Nat.le_refl _
  | 0, x :: _, _, h => by have := h x (by simp); omega
  | m + 1, zs, hn, h => by
    by_cases hm : (m : Int) ∈ zs
    · have h1 := nodup_few m (zs := zs.erase m) (hn.erase _) (fun x hx => by
        have h2 := h x (List.mem_of_mem_erase hx)
        have h3 : x ≠ m := fun e => by subst e; exact absurd hx (by rw [hn.mem_erase_iff]; simp)
        omega)
      rw [List.length_erase_of_mem hm] at h1
      omega
    · have h1 := nodup_few m hn (fun x hx => by
        have h2 := h x hx
        have h3 : x ≠ m := fun e => by subst e; exact hm hx
        omega)
      omega
theorem oneC_pos (v : Wv) (f t x : Int) : 4 ≤ oneC v f t x := by unfold oneC; omega
theorem allC_cons (v : Wv) (f t : Int) (z : Int) (zs : List Int) : allC v f t (z :: zs) = oneC v f t z + allC v f t zs := sumF_cons _ _
theorem allC_pos (v : Wv) (f t : Int) : ∀ zs : List Int, 0 ≤ allC v f t zs
  | [] => by simp [allC]
  | z :: zs => by
    rw [allC_cons]
    have := allC_pos v f t zs
    have := oneC_pos v f t z
    omega
theorem allC_app (v : Wv) (f t : Int) : ∀ (zs ys : List Int), allC v f t zs ≤ allC v f t (zs ++ ys)
  | [], ys => by have := allC_pos v f t ys; simpa [allC] using this
  | z :: zs, ys => by
    rw [List.cons_append, allC_cons, allC_cons]
    have := allC_app v f t zs ys
    omega
theorem allC_take (v : Wv) (f t : Int) (zs : List Int) (j : Nat) : allC v f t (zs.take j) ≤ allC v f t zs := by
  have := allC_app v f t (zs.take j) (zs.drop j)
  rwa [List.take_append_drop] at this
theorem infoSls : (Tryz.prog.info? 65).map (fun i => (i.zero, i.size, i.bytes)) = some (some (.slice none 0 0), 1, 24) := by kernel_rfl
theorem celSp_one (s : SpL) : ∀ u ∈ [celSp s], u.oneCell' = true := by
  intro u hu
  simp at hu
  subst hu
  rfl
/-- lists of spans of the call's own, behind j signals -/
structure RS (w : World) (M : Nat) (v : Wv) (L c f t : Int) (zs : List Int) (j : Nat) (A : Option Addr) (cc : Nat) (ls : List SpL) (W : World) : Prop where
  src : SrcTo w M v L (c + allC v f t (zs.take j)) W
  len : ls.length = j
  all : AllSp f t ((zs.take j).map (gOf v)) (ls.map SpL.l)
  own : W.ownsRow w.heap.size 65 1 (.slice A ls.length cc) ls.length (ls.map celSp)
  each : ∀ s ∈ ls, OwnSp W w.heap.size s.A s.c s.l
  short : ∀ s ∈ ls, s.l.length ≤ 21
section
variable {w W W' : World} {M j cc : Nat} {v : Wv} {L c c' f t : Int} {zs : List Int} {A : Option Addr} {ls : List SpL}
/-- behind calls of the source that make no list -/
theorem RS.lists (h : RS w M v L c f t zs j A cc ls W) (hM : M < w.heap.size) (hb : But W.heap.size (some M) W W') : W'.ownsRow w.heap.size 65 1 (.slice A ls.length cc) ls.length (ls.map celSp) ∧ ∀ s ∈ ls, OwnSp W' w.heap.size s.A s.c s.l :=
  ⟨own_block h.own fun g hg => hb.block g (own_ob h.own g hg).2 (fun e => by injection e with e; have := (own_ob h.own g hg).1; omega),
    fun s hs => own_block (h.each s hs) fun g hg => hb.block g (own_ob (h.each s hs) g hg).2 (fun e => by injection e with e; have := (own_ob (h.each s hs) g hg).1; omega)⟩
/-- behind the append of a list -/
theorem RS.push (hlen : ls.length = j) (hall : AllSp f t ((zs.take j).map (gOf v)) (ls.map SpL.l)) (hown : W.ownsRow w.heap.size 65 1 (.slice A ls.length cc) ls.length (ls.map celSp)) (heach : ∀ s ∈ ls, OwnSp W w.heap.size s.A s.c s.l) (hsh : ∀ s ∈ ls, s.l.length ≤ 21)
    (hM : M < w.heap.size) {x : Int} (hx : zs[j]? = some x) {s : SpL} (hs : OwnSp W w.heap.size s.A s.c s.l) (hsp : Spans (gOf v x) f t s.l) (hl : s.l.length ≤ 21) (hsrc : SrcTo w M v L (c + allC v f t (zs.take (j + 1))) W)
    {W1 W3 : World} (hW1 : W1 = W.alloc (.cells #[celSp s] 65)) (hg : W1.grownBy W3 (ob A)) {A' : Option Addr} {c' : Nat} (ho : W3.ownsRow w.heap.size 65 1 (.slice A' (ls ++ [s]).length c') (ls ++ [s]).length ((ls ++ [s]).map celSp)) :
    RS w M v L c f t zs (j + 1) A' c' (ls ++ [s]) W3 := by
  have hlt := (List.getElem?_eq_some_iff.1 hx).1
  have hzx : zs[j] = x := (List.getElem?_eq_some_iff.1 hx).2
  have hle := hsrc.2.size
  have old : ∀ b, b < W.heap.size → ob A ≠ some b → W3.heap[b]? = W.heap[b]? := fun b h1 h2 => by
    rw [hg.block b (by rw [hW1]; simp; omega) (fun e => h2 e.symm), hW1, Below.heap_alloc _ _ _ h1]
  have hA : ∀ b, ob A = some b → w.heap.size ≤ b := fun b hb => (own_ob hown b hb).1
  have keep : ∀ q : SpL, OwnSp W w.heap.size q.A q.c q.l → OwnSp W3 w.heap.size q.A q.c q.l := fun q hq => own_block hq fun g hg' => old g (own_ob hq g hg').2 (fun h1 => by
    obtain ⟨cs, h2⟩ := own_cellsT hown h1
    exact own_ne_type hq rfl h2 (by decide) hg')
  refine ⟨?_, by simp [hlen], ?_, ho, fun q hq => ?_, fun q hq => ?_⟩
  · have hbel : Below w.heap.size W W3 := by
      refine ⟨hg.os.trans (by rw [hW1]; rfl), hg.tape.trans (by rw [hW1]; rfl), hg.output.trans (by rw [hW1]; rfl), ?_, fun b hb => old b (by omega) (fun h1 => by have := hA b h1; omega)⟩
      have h1 := hg.size
      rw [hW1] at h1
      simp at h1
      omega
    exact hsrc.set (Nat.le_refl _) hM hbel
  · rw [List.take_succ_eq_append_getElem hlt, List.map_append, List.map_append, hzx]
    exact hall.snoc hsp
  · rcases List.mem_append.1 hq with hq | hq
    · exact keep q (heach q hq)
    · simp at hq
      subst hq
      exact keep q hs
  · rcases List.mem_append.1 hq with hq | hq
    · exact hsh q hq
    · simp at hq
      subst hq
      exact hl
/-- read by Zip -/
theorem RS.reads (h : RS w M v L c f t zs j A cc ls W) : LsAt W (Lo W.heap.size) A ls := by
  refine ⟨fun hne => ?_, fun s hs => (h.each s hs).row.more fun b hb => hb.2.1⟩
  obtain ⟨g, rfl, h1⟩ := own_place h.own (List.length_pos_iff.2 hne)
  have h2 := own_ob h.own g rfl
  refine ⟨g, 0, rfl, h2.2, fun i x hi k hk => ?_⟩
  have : k = 0 := by omega
  subst this
  have hlt := (List.getElem?_eq_some_iff.1 hi).1
  rw [Nat.zero_add, Nat.mul_one, Nat.add_zero, World.ownsRow.cellAt h.own _ (by omega), List.getElem?_map, hi]
  rfl
theorem RS.sum (h : RS w M v L c f t zs j A cc ls W) : ((ls.map SpL.l).map List.length).sum ≤ 21 * j := by
  have key : ∀ l : List SpL, (∀ s ∈ l, s.l.length ≤ 21) → ((l.map SpL.l).map List.length).sum ≤ 21 * l.length := by
    intro l
    induction l with
    | nil => intro _; simp
    | cons s l ih =>
      intro h
      have h1 := h s (by simp)
      have h2 := ih fun q hq => h q (by simp [hq])
      simp only [List.map_cons, List.sum_cons, List.length_cons]
      omega
  have := key ls h.short
  rw [h.len] at this
  exact this
end

end Go.Proofs.YtaaplalfggofiaaGreatDoor
