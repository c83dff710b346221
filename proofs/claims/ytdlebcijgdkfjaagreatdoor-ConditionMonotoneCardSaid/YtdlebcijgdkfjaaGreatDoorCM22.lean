/-
  Several texts in one: CTru, Few51. Each says at its head what it holds.
-/
import Derived.Test.YtdlebcijgdkfjaaGreatDoorCM20
import Derived.Test.YtdlebcijgdkfjaaGreatDoorCM21
import Derived.Test.YtdlebcijgdkfjaaGreatDoorCM14
import Derived.Test.YtdlebcijgdkfjaaGreatDoorCM19
import Derived.Deep.RegionHeld3
import Derived.Test.YtdlebcijgdkfjaaGreatDoorCM18

/-
  condition.truth: the result of a condition for the values of its signals. Printed by wip/genctru.py.
-/
namespace Go.Proofs.YtdlebcijgdkfjaaGreatDoor
open Go.RowKit

theorem truF_mk (env : Int → ByteArray) (kind at_ : Int) (name value : ByteArray) (a b c d : Int) (KA : Option Addr) (kc : Nat) (kids : List Nd) : truF env (.mk kind at_ name value a b c d KA kc kids) =
  if kind = 17 then ⟨#[49]⟩ else if kind = 18 then ⟨#[48]⟩
  else if 19 ≤ kind ∧ kind ≤ 26 then (match kids with | x :: y :: _ => bitS (cmpA (kindK x) kind (valF env x) (valF env y)) | _ => ⟨#[]⟩)
  else if kind = 27 then (match kids with | x :: _ => bitS (knownS (valF env x), true) | _ => ⟨#[]⟩)
  else if kind = 28 then (match kids.map (truF env) with | x :: _ => applyS 8 [x] | _ => ⟨#[]⟩)
  else if kind = 29 then (match kids.map (truF env) with | x :: y :: _ => applyS 9 [x, y] | _ => ⟨#[]⟩)
  else if kind = 30 then (match kids.map (truF env) with | x :: y :: _ => applyS 10 [x, y] | _ => ⟨#[]⟩)
  else bitS (decide (valF env (.mk kind at_ name value a b c d KA kc kids) = ⟨#[49]⟩), knownS (valF env (.mk kind at_ name value a b c d KA kc kids))) := truF_eq env _

theorem cbit_any (a b : Bool) (w : World) : Calls Tryz.prog 109 #[.bool a, .bool b] w fun e w' => e = .returned (.string (bitS (a, b))) ∧ w = w' := by
  cases a <;> cases b
  all_goals
    go_enter Tryz.func109, Tryz.ntmps109
    go_wp2_with fail
    go_ret
    exact ⟨rfl, rfl⟩
theorem kids_le {most : Nat} {n : Nd} (h : FewOk most n) : n.kids.length ≤ most := by
  have h1 := ((FewOk_eq most n).1 h).2.2.1
  have h2 := sum_nodes n.kids most fun k hk => ⟨nodes_pos k, (((FewOk_eq most n).1 h).2.2.2 k hk).nodes⟩
  rw [nodesF_eq] at h1
  omega
theorem siz_of {env : Int → ByteArray} (n : Nd) : EnvOk env n → FewOk 60 n → ∀ p, typeF n = some p → Siz env n := by
  induction n using Nd.ind with
  | h n ih =>
  intro he hf p hp
  have hkl := kids_le hf
  obtain ⟨_, _, he3⟩ := (EnvOk_eq env n).1 he
  obtain ⟨_, _, _, hf4⟩ := (FewOk_eq 60 n).1 hf
  rw [typeF_eq] at hp
  unfold typeB at hp
  have leaf : n.kids = [] → Siz env n := fun h => (Siz_eq env n).2 ⟨fun _ _ _ _ => ⟨by omega, fun k hk => by rw [h] at hk; cases hk⟩, fun k hk => by rw [h] at hk; cases hk⟩
  by_cases k1 : n.kind = 1
  · rw [if_pos k1] at hp
    by_cases h : n.kids = []
    · exact leaf h
    · rw [if_pos h] at hp; cases hp
  rw [if_neg k1] at hp
  by_cases k2 : n.kind = 2
  · rw [if_pos k2] at hp
    by_cases h : n.kids = []
    · exact leaf h
    · rw [if_pos h] at hp; cases hp
  rw [if_neg k2] at hp
  by_cases k4 : n.kind = 4
  · rw [if_pos k4] at hp
    by_cases h : n.kids = []
    · exact leaf h
    · rw [if_pos h] at hp; cases hp
  rw [if_neg k4] at hp
  by_cases k5 : n.kind = 5
  · rw [if_pos k5] at hp
    by_cases h : n.kids = []
    · exact leaf h
    · rw [if_pos h] at hp; cases hp
  rw [if_neg k5] at hp
  cases hws : widthsF (n.kids.map typeF) with
  | none => rw [hws] at hp; cases hp
  | some ws =>
    obtain ⟨hl, hat⟩ := widthsF_at hws
    have key : ∀ k ∈ n.kids, ∃ u, typeF k = some (0, u) := fun k hk => by
      obtain ⟨i, hi⟩ := List.getElem?_of_mem hk
      have hlt : i < ws.length := by rw [hl, List.length_map]; exact (List.getElem?_eq_some_iff.1 hi).1
      have := hat i ws[i] (List.getElem?_eq_getElem hlt)
      rw [List.getElem?_map, hi] at this
      exact ⟨_, by injection this⟩
    refine (Siz_eq env n).2 ⟨fun _ _ _ _ => ⟨by omega, fun k hk => ?_⟩, fun k hk => ?_⟩
    · obtain ⟨u, hu⟩ := key k hk
      exact (val_size k (he3 k hk) 0 u hu).1
    · obtain ⟨u, hu⟩ := key k hk
      exact ih k hk (he3 k hk) (hf4 k hk) _ hu
theorem typedK_some {l : List Nd} {k : Int} (h : typedK l = some k) : ∃ u, ∀ x ∈ l, typeF x = some (k, u) := by
  cases l with
  | nil => cases h
  | cons x r =>
    unfold typedK at h
    dsimp only at h
    cases hx : typeF x with
    | none => rw [hx] at h; cases h
    | some p =>
      rw [hx] at h
      dsimp only at h
      split at h
      · rename_i hall
        injection h with h
        subst h
        exact ⟨p.2, fun y hy => by rcases List.mem_cons.1 hy with rfl | hy; exact hx; exact hall y hy⟩
      · cases h
theorem strs_1 (w : World) (a : ByteArray) : StrsAt (w.alloc (.cells #[.string a] 9)) (Lo (w.alloc (.cells #[.string a] 9)).heap.size) (some ⟨w.heap.size, 0, none⟩) [a] := fun _ => by
  refine ⟨w.heap.size, 0, rfl, by unfold Lo; simp, fun i s hi => ?_⟩
  rw [cell_of_row _ _ _ _ _ (0, 0) (heap_alloc_new w _)]
  match i, hi with
  | 0, hi => simp at hi; subst hi; rfl
  | i + 1, hi => simp at hi
theorem strs_2 (w : World) (a b : ByteArray) : StrsAt (w.alloc (.cells #[.string a, .string b] 9)) (Lo (w.alloc (.cells #[.string a, .string b] 9)).heap.size) (some ⟨w.heap.size, 0, none⟩) [a, b] := fun _ => by
  refine ⟨w.heap.size, 0, rfl, by unfold Lo; simp, fun i s hi => ?_⟩
  rw [cell_of_row _ _ _ _ _ (0, 0) (heap_alloc_new w _)]
  match i, hi with
  | 0, hi => simp at hi; subst hi; rfl
  | 1, hi => simp at hi; subst hi; rfl
  | i + 2, hi => simp at hi
theorem tri_size {v : ByteArray} (h : Tri3 v) : v.size ≤ 130 := by
  rcases h with rfl | rfl | rfl <;> decide
theorem one_list : (⟨#[49]⟩ : ByteArray).toList = [49] := by rw [ByteArray.toList_eq]
theorem str_dec (v u : ByteArray) : decide (v = u) = (v.toList == u.toList) := by
  by_cases h : v = u
  · subst h; simp
  · rw [decide_eq_false h, beq_eq_false_iff_ne.2 (fun e => h (by rw [ByteArray.toList_eq, ByteArray.toList_eq] at e; exact ByteArray.ext (Array.toList_inj.1 e)))]
theorem held1_below {W wx : World} {Bn Bv bk o : Nat} {u v x0 x1 x2 x3 x4 x5 x6 x7 x8 : Value} (h : wx.cell? ⟨Bn, 8, none⟩ = some u ∧ wx.cell? ⟨Bv, 0, none⟩ = some v ∧ wx.cell? ⟨bk, o, none⟩ = some x0 ∧ wx.cell? ⟨bk, o + 1, none⟩ = some x1 ∧ wx.cell? ⟨bk, o + 2, none⟩ = some x2 ∧ wx.cell? ⟨bk, o + 3, none⟩ = some x3 ∧ wx.cell? ⟨bk, o + 4, none⟩ = some x4 ∧ wx.cell? ⟨bk, o + 5, none⟩ = some x5 ∧ wx.cell? ⟨bk, o + 6, none⟩ = some x6 ∧ wx.cell? ⟨bk, o + 7, none⟩ = some x7 ∧ wx.cell? ⟨bk, o + 8, none⟩ = some x8 ∧ Below W.heap.size W wx) : Below W.heap.size W wx := h.2.2.2.2.2.2.2.2.2.2.2
theorem held1_step {W wx w2 : World} {Bn Bv bk o : Nat} {u v x0 x1 x2 x3 x4 x5 x6 x7 x8 : Value} (h : wx.cell? ⟨Bn, 8, none⟩ = some u ∧ wx.cell? ⟨Bv, 0, none⟩ = some v ∧ wx.cell? ⟨bk, o, none⟩ = some x0 ∧ wx.cell? ⟨bk, o + 1, none⟩ = some x1 ∧ wx.cell? ⟨bk, o + 2, none⟩ = some x2 ∧ wx.cell? ⟨bk, o + 3, none⟩ = some x3 ∧ wx.cell? ⟨bk, o + 4, none⟩ = some x4 ∧ wx.cell? ⟨bk, o + 5, none⟩ = some x5 ∧ wx.cell? ⟨bk, o + 6, none⟩ = some x6 ∧ wx.cell? ⟨bk, o + 7, none⟩ = some x7 ∧ wx.cell? ⟨bk, o + 8, none⟩ = some x8 ∧ Below W.heap.size W wx) (hb : Below wx.heap.size wx w2) : w2.cell? ⟨Bn, 8, none⟩ = some u ∧ w2.cell? ⟨Bv, 0, none⟩ = some v ∧ w2.cell? ⟨bk, o, none⟩ = some x0 ∧ w2.cell? ⟨bk, o + 1, none⟩ = some x1 ∧ w2.cell? ⟨bk, o + 2, none⟩ = some x2 ∧ w2.cell? ⟨bk, o + 3, none⟩ = some x3 ∧ w2.cell? ⟨bk, o + 4, none⟩ = some x4 ∧ w2.cell? ⟨bk, o + 5, none⟩ = some x5 ∧ w2.cell? ⟨bk, o + 6, none⟩ = some x6 ∧ w2.cell? ⟨bk, o + 7, none⟩ = some x7 ∧ w2.cell? ⟨bk, o + 8, none⟩ = some x8 ∧ Below W.heap.size W w2 :=
  ⟨cell_later hb (h.1), cell_later hb (h.2.1), cell_later hb (h.2.2.1), cell_later hb (h.2.2.2.1), cell_later hb (h.2.2.2.2.1), cell_later hb (h.2.2.2.2.2.1), cell_later hb (h.2.2.2.2.2.2.1), cell_later hb (h.2.2.2.2.2.2.2.1), cell_later hb (h.2.2.2.2.2.2.2.2.1), cell_later hb (h.2.2.2.2.2.2.2.2.2.1), cell_later hb (h.2.2.2.2.2.2.2.2.2.2.1), bstep (h.2.2.2.2.2.2.2.2.2.2.2) hb⟩
theorem held2_below {W wx : World} {Bn Bv bk o p : Nat} {u v x0 x1 x2 x3 x4 x5 x6 x7 x8 z0 z1 z2 z3 z4 z5 z6 z7 z8 : Value} (h : wx.cell? ⟨Bn, 8, none⟩ = some u ∧ wx.cell? ⟨Bv, 0, none⟩ = some v ∧ wx.cell? ⟨bk, o, none⟩ = some x0 ∧ wx.cell? ⟨bk, o + 1, none⟩ = some x1 ∧ wx.cell? ⟨bk, o + 2, none⟩ = some x2 ∧ wx.cell? ⟨bk, o + 3, none⟩ = some x3 ∧ wx.cell? ⟨bk, o + 4, none⟩ = some x4 ∧ wx.cell? ⟨bk, o + 5, none⟩ = some x5 ∧ wx.cell? ⟨bk, o + 6, none⟩ = some x6 ∧ wx.cell? ⟨bk, o + 7, none⟩ = some x7 ∧ wx.cell? ⟨bk, o + 8, none⟩ = some x8 ∧ wx.cell? ⟨bk, p, none⟩ = some z0 ∧ wx.cell? ⟨bk, p + 1, none⟩ = some z1 ∧ wx.cell? ⟨bk, p + 2, none⟩ = some z2 ∧ wx.cell? ⟨bk, p + 3, none⟩ = some z3 ∧ wx.cell? ⟨bk, p + 4, none⟩ = some z4 ∧ wx.cell? ⟨bk, p + 5, none⟩ = some z5 ∧ wx.cell? ⟨bk, p + 6, none⟩ = some z6 ∧ wx.cell? ⟨bk, p + 7, none⟩ = some z7 ∧ wx.cell? ⟨bk, p + 8, none⟩ = some z8 ∧ Below W.heap.size W wx) : Below W.heap.size W wx := h.2.2.2.2.2.2.2.2.2.2.2.2.2.2.2.2.2.2.2.2
theorem held2_step {W wx w2 : World} {Bn Bv bk o p : Nat} {u v x0 x1 x2 x3 x4 x5 x6 x7 x8 z0 z1 z2 z3 z4 z5 z6 z7 z8 : Value} (h : wx.cell? ⟨Bn, 8, none⟩ = some u ∧ wx.cell? ⟨Bv, 0, none⟩ = some v ∧ wx.cell? ⟨bk, o, none⟩ = some x0 ∧ wx.cell? ⟨bk, o + 1, none⟩ = some x1 ∧ wx.cell? ⟨bk, o + 2, none⟩ = some x2 ∧ wx.cell? ⟨bk, o + 3, none⟩ = some x3 ∧ wx.cell? ⟨bk, o + 4, none⟩ = some x4 ∧ wx.cell? ⟨bk, o + 5, none⟩ = some x5 ∧ wx.cell? ⟨bk, o + 6, none⟩ = some x6 ∧ wx.cell? ⟨bk, o + 7, none⟩ = some x7 ∧ wx.cell? ⟨bk, o + 8, none⟩ = some x8 ∧ wx.cell? ⟨bk, p, none⟩ = some z0 ∧ wx.cell? ⟨bk, p + 1, none⟩ = some z1 ∧ wx.cell? ⟨bk, p + 2, none⟩ = some z2 ∧ wx.cell? ⟨bk, p + 3, none⟩ = some z3 ∧ wx.cell? ⟨bk, p + 4, none⟩ = some z4 ∧ wx.cell? ⟨bk, p + 5, none⟩ = some z5 ∧ wx.cell? ⟨bk, p + 6, none⟩ = some z6 ∧ wx.cell? ⟨bk, p + 7, none⟩ = some z7 ∧ wx.cell? ⟨bk, p + 8, none⟩ = some z8 ∧ Below W.heap.size W wx) (hb : Below wx.heap.size wx w2) : w2.cell? ⟨Bn, 8, none⟩ = some u ∧ w2.cell? ⟨Bv, 0, none⟩ = some v ∧ w2.cell? ⟨bk, o, none⟩ = some x0 ∧ w2.cell? ⟨bk, o + 1, none⟩ = some x1 ∧ w2.cell? ⟨bk, o + 2, none⟩ = some x2 ∧ w2.cell? ⟨bk, o + 3, none⟩ = some x3 ∧ w2.cell? ⟨bk, o + 4, none⟩ = some x4 ∧ w2.cell? ⟨bk, o + 5, none⟩ = some x5 ∧ w2.cell? ⟨bk, o + 6, none⟩ = some x6 ∧ w2.cell? ⟨bk, o + 7, none⟩ = some x7 ∧ w2.cell? ⟨bk, o + 8, none⟩ = some x8 ∧ w2.cell? ⟨bk, p, none⟩ = some z0 ∧ w2.cell? ⟨bk, p + 1, none⟩ = some z1 ∧ w2.cell? ⟨bk, p + 2, none⟩ = some z2 ∧ w2.cell? ⟨bk, p + 3, none⟩ = some z3 ∧ w2.cell? ⟨bk, p + 4, none⟩ = some z4 ∧ w2.cell? ⟨bk, p + 5, none⟩ = some z5 ∧ w2.cell? ⟨bk, p + 6, none⟩ = some z6 ∧ w2.cell? ⟨bk, p + 7, none⟩ = some z7 ∧ w2.cell? ⟨bk, p + 8, none⟩ = some z8 ∧ Below W.heap.size W w2 :=
  ⟨cell_later hb (h.1), cell_later hb (h.2.1), cell_later hb (h.2.2.1), cell_later hb (h.2.2.2.1), cell_later hb (h.2.2.2.2.1), cell_later hb (h.2.2.2.2.2.1), cell_later hb (h.2.2.2.2.2.2.1), cell_later hb (h.2.2.2.2.2.2.2.1), cell_later hb (h.2.2.2.2.2.2.2.2.1), cell_later hb (h.2.2.2.2.2.2.2.2.2.1), cell_later hb (h.2.2.2.2.2.2.2.2.2.2.1), cell_later hb (h.2.2.2.2.2.2.2.2.2.2.2.1), cell_later hb (h.2.2.2.2.2.2.2.2.2.2.2.2.1), cell_later hb (h.2.2.2.2.2.2.2.2.2.2.2.2.2.1), cell_later hb (h.2.2.2.2.2.2.2.2.2.2.2.2.2.2.1), cell_later hb (h.2.2.2.2.2.2.2.2.2.2.2.2.2.2.2.1), cell_later hb (h.2.2.2.2.2.2.2.2.2.2.2.2.2.2.2.2.1), cell_later hb (h.2.2.2.2.2.2.2.2.2.2.2.2.2.2.2.2.2.1), cell_later hb (h.2.2.2.2.2.2.2.2.2.2.2.2.2.2.2.2.2.2.1), cell_later hb (h.2.2.2.2.2.2.2.2.2.2.2.2.2.2.2.2.2.2.2.1), bstep (h.2.2.2.2.2.2.2.2.2.2.2.2.2.2.2.2.2.2.2.2) hb⟩
theorem chain2 (w1 : World) (a b : Obj) {V : World} (hV : (w1.alloc a).alloc b = V) : V.heap[w1.heap.size]? = some a ∧ V.heap[w1.heap.size + 1]? = some b ∧ Below w1.heap.size w1 V := by
  subst hV
  have s1 : (w1.alloc a).heap.size = w1.heap.size + 1 := World.size_alloc _ _
  have n0 := heap_alloc_new w1 a
  have n1 := heap_alloc_new (w1.alloc a) b
  rw [s1] at n1
  exact ⟨box_alloc n0, n1, ((Below.refl _ _).alloc (Nat.le_refl _) _).alloc (by omega) _⟩
def TruC (env : Int → ByteArray) (n : Nd) : Prop := ∀ (w : World) (Bm q : Nat), TreesAt w (Lo w.heap.size) n.KA n.kids → MapS w Bm q env → Tab w → okF n → EnvOk env n → FewOk 60 n → resF n = true →
  Calls Tryz.prog 62 #[.agg (cNd n).toArray, .map (some Bm)] w (RetV (.string (truF env n)) w)
/-- a value of a typed tree, called -/
theorem cval_of {env : Int → ByteArray} {n : Nd} {p : Int × Int} (hp : typeF n = some p) (w : World) (Bm q : Nat) (ht : TreesAt w (Lo w.heap.size) n.KA n.kids) (hm : MapS w Bm q env) (hok : okF n) (he : EnvOk env n) (hf : FewOk 60 n) :
    Calls Tryz.prog 52 #[.agg (cNd n).toArray, .map (some Bm)] w (RetV (.string (valF env n)) w) := cval_any env n w Bm q ht hm hok (siz_of n he hf p hp)

set_option maxRecDepth 100000 in
set_option maxHeartbeats 4000000 in
/-- the closure that evaluates an operand -/
theorem opd_any (env : Int → ByteArray) (i : Nat) (l : List Nd) (x : Nd) (hi : l[i]? = some x) (ih : TruC env x) (V0 V1 V2 V3 V4 V5 V6 V7 : Value) (KA : Option Addr) (kc Bn Bv Bm q : Nat) (w : World) (ht : TreesAt w (Lo w.heap.size) KA l) (hm : MapS w Bm q env) (htab : Tab w)
    (hok : okF x) (he : EnvOk env x) (hf : FewOk 60 x) (hr : resF x = true) (hn : w.heap[Bn]? = some (.cells #[V0, V1, V2, V3, V4, V5, V6, V7, .slice KA l.length kc] 32 (0, 0))) (hv : w.heap[Bv]? = some (.cells #[.map (some Bm)] 89 (0, 0))) :
    Calls Tryz.prog 108 #[.int .i64 (i : Int), .pointer (some ⟨Bn, 0, none⟩), .pointer (some ⟨Bv, 0, none⟩)] w (RetV (.string (truF env x)) w) := by
  have hlt : i < l.length := (List.getElem?_eq_some_iff.1 hi).1
  obtain ⟨bk, ok, rfl, hbk, hc⟩ := ht.row.at_ hlt
  have hx : l[i] = x := (List.getElem?_eq_some_iff.1 hi).2
  rw [hx] at hc
  have hkid := ht.each x (List.mem_of_getElem? hi)
  have HC := hide (fun (W : World) (hb : Below w.heap.size w W) => ih W Bm q (hkid.grow hb) (hm.block (hb.block _ hm.lt)) (htab.below hb) hok he hf hr)
  obtain ⟨-, -, -, -, -, -, -, -, y8⟩ := box9 hn
  have yv := box_cell hv
  have hll := ht.len
  clear ht hm htab ih hn hv hkid hx hi hok he hf hr
  generalize truF env x = r at *
  obtain ⟨m1, m2, m3, m4, m5, m6, m7, m8, mK, mc, ml⟩ := x
  unfold cNd at hc HC
  dsimp only at HC
  obtain ⟨c0, c1, c2, c3, c4, c5, c6, c7, c8⟩ := nine hc
  clear hc
  have hb0 := Below.refl w.heap.size w
  go_enter Tryz.func108, Tryz.ntmps108
  go_upto_region 1 with (fail)
  have hS0 : w.drew.cell? ⟨Bn, 8, none⟩ = some (.slice (some ⟨bk, ok, none⟩) l.length kc) ∧ w.drew.cell? ⟨Bv, 0, none⟩ = some (.map (some Bm)) ∧ w.drew.cell? ⟨bk, ok + i * 9, none⟩ = some (.int .i64 m1) ∧ w.drew.cell? ⟨bk, ok + i * 9 + 1, none⟩ = some (.int .i64 m2) ∧ w.drew.cell? ⟨bk, ok + i * 9 + 2, none⟩ = some (.string m3) ∧ w.drew.cell? ⟨bk, ok + i * 9 + 3, none⟩ = some (.string m4) ∧ w.drew.cell? ⟨bk, ok + i * 9 + 4, none⟩ = some (.int .i64 m5) ∧ w.drew.cell? ⟨bk, ok + i * 9 + 5, none⟩ = some (.int .i64 m6) ∧ w.drew.cell? ⟨bk, ok + i * 9 + 6, none⟩ = some (.int .i64 m7) ∧ w.drew.cell? ⟨bk, ok + i * 9 + 7, none⟩ = some (.int .i64 m8) ∧ w.drew.cell? ⟨bk, ok + i * 9 + 8, none⟩ = some (.slice mK ml.length mc) ∧ Below w.heap.size w w.drew := held1_step (W := w) (wx := w) (w2 := w.drew) (o := ok + i * 9) ⟨y8, yv, c0, c1, c2, c3, c4, c5, c6, c7, c8, Below.refl _ _⟩ (below_drew (Below.refl _ _))
  go_region_held3 (fun wx => wx.cell? ⟨Bn, 8, none⟩ = some (.slice (some ⟨bk, ok, none⟩) l.length kc) ∧ wx.cell? ⟨Bv, 0, none⟩ = some (.map (some Bm)) ∧ wx.cell? ⟨bk, ok + i * 9, none⟩ = some (.int .i64 m1) ∧ wx.cell? ⟨bk, ok + i * 9 + 1, none⟩ = some (.int .i64 m2) ∧ wx.cell? ⟨bk, ok + i * 9 + 2, none⟩ = some (.string m3) ∧ wx.cell? ⟨bk, ok + i * 9 + 3, none⟩ = some (.string m4) ∧ wx.cell? ⟨bk, ok + i * 9 + 4, none⟩ = some (.int .i64 m5) ∧ wx.cell? ⟨bk, ok + i * 9 + 5, none⟩ = some (.int .i64 m6) ∧ wx.cell? ⟨bk, ok + i * 9 + 6, none⟩ = some (.int .i64 m7) ∧ wx.cell? ⟨bk, ok + i * 9 + 7, none⟩ = some (.int .i64 m8) ∧ wx.cell? ⟨bk, ok + i * 9 + 8, none⟩ = some (.slice mK ml.length mc) ∧ Below w.heap.size w wx)
    (first | (with_reducible assumption))
    (first | (go_at_call 62; refine (HC.out _ (held1_below (by with_reducible assumption))).mono ?_; rintro e w2 ⟨rfl, hb2⟩; have s3 := held1_step (by with_reducible assumption) hb2; clear hb2))
  all_goals go_wp2_with fail
  all_goals go_ret
  all_goals exact ⟨rfl, held1_below (by with_reducible assumption)⟩

set_option maxRecDepth 100000 in
set_option maxHeartbeats 8000000 in
theorem ctruth_any (env : Int → ByteArray) (n : Nd) : TruC env n := by
  induction n using Nd.ind with
  | h n ih =>
  intro w Bm q ht hm htab hok he hf hr
  have IH := hide ih
  have HOK := hide ((okF_eq n).1 hok)
  have HE := hide ((EnvOk_eq env n).1 he).2.2
  have HF := hide ((FewOk_eq 60 n).1 hf).2.2.2
  have LV := hide (fun k u (h : typeF n = some (k, u)) => (val_size n he k u h).1)
  have hvs := fun p (hp : typeF n = some p) => cval_of hp (he := he) (hf := hf) (hok := hok) (env := env)
  clear ih
  obtain ⟨kind, at_, name, value, a, b, c, d, KA, kc, kids⟩ := n
  unfold Nd.KA Nd.kids at ht
  dsimp only [Nd.kids] at HOK HE HF
  rw [resF_mk] at hr
  unfold cNd
  have hl := ht.len
  obtain ⟨W0, hW0⟩ : ∃ W0, (w.alloc (.cells #[.int .i64 kind, .int .i64 at_, .string name, .string value, .int .i64 a, .int .i64 b, .int .i64 c, .int .i64 d, .slice KA kids.length kc] 32)).alloc (.cells #[.map (some Bm)] 89) = W0 := ⟨_, rfl⟩
  obtain ⟨p0, p1, hb0⟩ := chain2 _ _ _ hW0
  have HT := hide (ht.grow hb0)
  have HM := hide (hm.block (hb0.block _ hm.lt))
  have HTAB := hide (htab.below hb0)
  have HG0 := hide p0
  have HG1 := hide p1
  have HB0 := hide hb0
  have HW0 := hide hW0
  obtain ⟨y0, y1, y2, y3, y4, y5, y6, y7, y8⟩ := box9 p0
  have yv := box_cell p1
  have HQ := hide (show ∀ (o : ByteArray) (wr : World), truF env (.mk kind at_ name value a b c d KA kc kids) = o → Below W0.heap.size W0 wr → RetV (.string (truF env (.mk kind at_ name value a b c d KA kc kids))) w (.returned (.string o)) wr from fun o wr h hb => ⟨by rw [h], bstep HB0.out hb⟩)
  have HEQ := hide (truF_mk env kind at_ name value a b c d KA kc kids)
  clear ht hm htab hok he hf hb0 hW0 p0 p1
  go_enter Tryz.func62, Tryz.ntmps62
  go_upto_region 1 with (fail)
  rw [HW0.out]
  by_cases k17 : kind = 17
  · subst k17
    have HR := hide (HQ.out ⟨#[49]⟩ W0 (by rw [HEQ.out, if_pos rfl]) (Below.refl _ _))
    clear HQ HEQ hr hvs
    go_wp2_with (go_at_call 109; refine (cbit_any _ _ _).mono ?_; rintro e w2 ⟨rfl, rfl⟩)
    go_ret
    exact HR.out
  rw [if_neg k17] at HEQ
  by_cases k18 : kind = 18
  · subst k18
    have HR := hide (HQ.out ⟨#[48]⟩ W0 (by rw [HEQ.out, if_pos rfl]) (Below.refl _ _))
    clear HQ HEQ hr hvs
    go_wp2_with (go_at_call 109; refine (cbit_any _ _ _).mono ?_; rintro e w2 ⟨rfl, rfl⟩)
    go_ret
    exact HR.out
  rw [if_neg k18] at HEQ
  rw [if_neg (fun h => h.elim k17 k18)] at hr
  have T17 : (kind == 17) = false := beq_eq_false_iff_ne.2 k17
  have T18 : (kind == 18) = false := beq_eq_false_iff_ne.2 k18
  clear k17 k18
  by_cases kc1 : 19 ≤ kind ∧ kind ≤ 26
  · rw [if_pos kc1] at HEQ hr
    have T19 : decide (19 ≤ kind) = true := decide_eq_true kc1.1
    have T26 : decide (kind ≤ 26) = true := decide_eq_true kc1.2
    rw [Bool.and_eq_true, beq_iff_eq] at hr
    obtain ⟨h2, h3⟩ := hr
    obtain ⟨x, y, rfl⟩ := two_of h2
    obtain ⟨k, hk⟩ : ∃ k, typedK [x, y] = some k := by
      cases h : typedK [x, y] with
      | none => rw [h] at h3; cases h3
      | some k => exact ⟨k, rfl⟩
    obtain ⟨u, hall⟩ := typedK_some hk
    have tx := hall x (by simp)
    have ty := hall y (by simp)
    have hkx : kindK x = k := by unfold kindK; rw [tx]
    dsimp only at HEQ
    rw [hkx] at HEQ
    obtain ⟨bk, ok, rfl, hbk, hc⟩ := HT.out.row.at_ (k := 0) (by simp)
    obtain ⟨bk', ok', e, hbk', hd⟩ := HT.out.row.at_ (k := 1) (by simp)
    injection e with e
    injection e with e1 e2
    subst e1 e2
    have hx0 : [x, y][0] = x := rfl
    have hy0 : [x, y][1] = y := rfl
    rw [hx0] at hc
    rw [hy0] at hd
    have hkx := HT.out.each x (by simp)
    have hky := HT.out.each y (by simp)
    have HTY := type_any x W0 hkx
    rw [tx] at HTY
    unfold typV at HTY
    have HCX := hide (fun (W : World) (hb : Below W0.heap.size W0 W) => cval_of tx W Bm q (hkx.grow hb) (HM.out.block (hb.block _ HM.out.lt)) (HOK.out.2 x (by simp)) (HE.out x (by simp)) (HF.out x (by simp)))
    have HCY := hide (fun (W : World) (hb : Below W0.heap.size W0 W) => cval_of ty W Bm q (hky.grow hb) (HM.out.block (hb.block _ HM.out.lt)) (HOK.out.2 y (by simp)) (HE.out y (by simp)) (HF.out y (by simp)))
    have lx := (val_size x (HE.out x (by simp)) k u tx).1
    have ly := (val_size y (HE.out y (by simp)) k u ty).1
    generalize valF env x = vx at *
    generalize valF env y = vy at *
    obtain ⟨m1, m2, m3, m4, m5, m6, m7, m8, mK, mc, ml⟩ := x
    obtain ⟨n1, n2, n3, n4, n5, n6, n7, n8, nK, nc, nl⟩ := y
    unfold cNd at hc hd HTY HCX HCY
    dsimp only at HTY HCX HCY
    have HTY := hide HTY
    obtain ⟨c0, c1, c2, c3, c4, c5, c6, c7, c8⟩ := nine hc
    obtain ⟨d0, d1, d2, d3, d4, d5, d6, d7, d8⟩ := nine hd
    simp only [Nat.zero_mul, Nat.one_mul, Nat.add_zero] at c0 c1 c2 c3 c4 c5 c6 c7 c8 d0 d1 d2 d3 d4 d5 d6 d7 d8
    have HR := hide (fun wr hb => HQ.out _ wr HEQ.out hb)
    have hS : W0.cell? ⟨w.heap.size, 8, none⟩ = some (.slice (some ⟨bk, ok, none⟩) [(Nd.mk m1 m2 m3 m4 m5 m6 m7 m8 mK mc ml), (Nd.mk n1 n2 n3 n4 n5 n6 n7 n8 nK nc nl)].length kc) ∧ W0.cell? ⟨w.heap.size + 1, 0, none⟩ = some (.map (some Bm)) ∧ W0.cell? ⟨bk, ok, none⟩ = some (.int .i64 m1) ∧ W0.cell? ⟨bk, ok + 1, none⟩ = some (.int .i64 m2) ∧ W0.cell? ⟨bk, ok + 2, none⟩ = some (.string m3) ∧ W0.cell? ⟨bk, ok + 3, none⟩ = some (.string m4) ∧ W0.cell? ⟨bk, ok + 4, none⟩ = some (.int .i64 m5) ∧ W0.cell? ⟨bk, ok + 5, none⟩ = some (.int .i64 m6) ∧ W0.cell? ⟨bk, ok + 6, none⟩ = some (.int .i64 m7) ∧ W0.cell? ⟨bk, ok + 7, none⟩ = some (.int .i64 m8) ∧ W0.cell? ⟨bk, ok + 8, none⟩ = some (.slice mK ml.length mc) ∧ W0.cell? ⟨bk, ok + 9, none⟩ = some (.int .i64 n1) ∧ W0.cell? ⟨bk, ok + 9 + 1, none⟩ = some (.int .i64 n2) ∧ W0.cell? ⟨bk, ok + 9 + 2, none⟩ = some (.string n3) ∧ W0.cell? ⟨bk, ok + 9 + 3, none⟩ = some (.string n4) ∧ W0.cell? ⟨bk, ok + 9 + 4, none⟩ = some (.int .i64 n5) ∧ W0.cell? ⟨bk, ok + 9 + 5, none⟩ = some (.int .i64 n6) ∧ W0.cell? ⟨bk, ok + 9 + 6, none⟩ = some (.int .i64 n7) ∧ W0.cell? ⟨bk, ok + 9 + 7, none⟩ = some (.int .i64 n8) ∧ W0.cell? ⟨bk, ok + 9 + 8, none⟩ = some (.slice nK nl.length nc) ∧ Below W0.heap.size W0 W0 := ⟨y8, yv, c0, c1, c2, c3, c4, c5, c6, c7, c8, d0, d1, d2, d3, d4, d5, d6, d7, d8, Below.refl _ _⟩
    have HS := hide hS
    clear hS HQ HEQ hc hd hkx hky h3 h2 hk hall tx ty hvs kc1 hx0 hy0
    go_upto_region 7 with (go_at_call 48; refine HTY.out.mono ?_; rintro e w1 ⟨rfl, hb1⟩)
    have hS1 := held2_step HS.out hb1
    have hS0 : w1.drew.cell? ⟨w.heap.size, 8, none⟩ = some (.slice (some ⟨bk, ok, none⟩) 2 kc) ∧ w1.drew.cell? ⟨w.heap.size + 1, 0, none⟩ = some (.map (some Bm)) ∧ w1.drew.cell? ⟨bk, ok, none⟩ = some (.int .i64 m1) ∧ w1.drew.cell? ⟨bk, ok + 1, none⟩ = some (.int .i64 m2) ∧ w1.drew.cell? ⟨bk, ok + 2, none⟩ = some (.string m3) ∧ w1.drew.cell? ⟨bk, ok + 3, none⟩ = some (.string m4) ∧ w1.drew.cell? ⟨bk, ok + 4, none⟩ = some (.int .i64 m5) ∧ w1.drew.cell? ⟨bk, ok + 5, none⟩ = some (.int .i64 m6) ∧ w1.drew.cell? ⟨bk, ok + 6, none⟩ = some (.int .i64 m7) ∧ w1.drew.cell? ⟨bk, ok + 7, none⟩ = some (.int .i64 m8) ∧ w1.drew.cell? ⟨bk, ok + 8, none⟩ = some (.slice mK ml.length mc) ∧ w1.drew.cell? ⟨bk, ok + 9, none⟩ = some (.int .i64 n1) ∧ w1.drew.cell? ⟨bk, ok + 9 + 1, none⟩ = some (.int .i64 n2) ∧ w1.drew.cell? ⟨bk, ok + 9 + 2, none⟩ = some (.string n3) ∧ w1.drew.cell? ⟨bk, ok + 9 + 3, none⟩ = some (.string n4) ∧ w1.drew.cell? ⟨bk, ok + 9 + 4, none⟩ = some (.int .i64 n5) ∧ w1.drew.cell? ⟨bk, ok + 9 + 5, none⟩ = some (.int .i64 n6) ∧ w1.drew.cell? ⟨bk, ok + 9 + 6, none⟩ = some (.int .i64 n7) ∧ w1.drew.cell? ⟨bk, ok + 9 + 7, none⟩ = some (.int .i64 n8) ∧ w1.drew.cell? ⟨bk, ok + 9 + 8, none⟩ = some (.slice nK nl.length nc) ∧ Below W0.heap.size W0 w1.drew := held2_step hS1 (below_drew (Below.refl _ _))
    clear hS1 hb1 y0 y1 y2 y3 y4 y5 y6 y7 y8 yv c0 c1 c2 c3 c4 c5 c6 c7 c8 d0 d1 d2 d3 d4 d5 d6 d7 d8
    go_region_held3 (fun wx => wx.cell? ⟨w.heap.size, 8, none⟩ = some (.slice (some ⟨bk, ok, none⟩) 2 kc) ∧ wx.cell? ⟨w.heap.size + 1, 0, none⟩ = some (.map (some Bm)) ∧ wx.cell? ⟨bk, ok, none⟩ = some (.int .i64 m1) ∧ wx.cell? ⟨bk, ok + 1, none⟩ = some (.int .i64 m2) ∧ wx.cell? ⟨bk, ok + 2, none⟩ = some (.string m3) ∧ wx.cell? ⟨bk, ok + 3, none⟩ = some (.string m4) ∧ wx.cell? ⟨bk, ok + 4, none⟩ = some (.int .i64 m5) ∧ wx.cell? ⟨bk, ok + 5, none⟩ = some (.int .i64 m6) ∧ wx.cell? ⟨bk, ok + 6, none⟩ = some (.int .i64 m7) ∧ wx.cell? ⟨bk, ok + 7, none⟩ = some (.int .i64 m8) ∧ wx.cell? ⟨bk, ok + 8, none⟩ = some (.slice mK ml.length mc) ∧ wx.cell? ⟨bk, ok + 9, none⟩ = some (.int .i64 n1) ∧ wx.cell? ⟨bk, ok + 9 + 1, none⟩ = some (.int .i64 n2) ∧ wx.cell? ⟨bk, ok + 9 + 2, none⟩ = some (.string n3) ∧ wx.cell? ⟨bk, ok + 9 + 3, none⟩ = some (.string n4) ∧ wx.cell? ⟨bk, ok + 9 + 4, none⟩ = some (.int .i64 n5) ∧ wx.cell? ⟨bk, ok + 9 + 5, none⟩ = some (.int .i64 n6) ∧ wx.cell? ⟨bk, ok + 9 + 6, none⟩ = some (.int .i64 n7) ∧ wx.cell? ⟨bk, ok + 9 + 7, none⟩ = some (.int .i64 n8) ∧ wx.cell? ⟨bk, ok + 9 + 8, none⟩ = some (.slice nK nl.length nc) ∧ Below W0.heap.size W0 wx)
      (first | (with_reducible assumption))
      (first
        | (go_at_call_of 52 m3; refine (HCX.out _ (held2_below (by with_reducible assumption))).mono ?_; rintro e w2 ⟨rfl, hb2⟩; have s3 := held2_step (by with_reducible assumption) hb2; clear hb2)
        | (go_at_call_of 52 n3; refine (HCY.out _ (held2_below (by with_reducible assumption))).mono ?_; rintro e w3 ⟨rfl, hb3⟩; have s4 := held2_step (by with_reducible assumption) hb3; clear hb3)
        | (go_at_call 10; refine (ccmp_any k kind vx vy _ (HTAB.out.below (held2_below (by with_reducible assumption))) (by omega) (by omega)).mono ?_; rintro e w5 ⟨rfl, hb5⟩; have s5 := held2_step (by with_reducible assumption) hb5; clear hb5)
        | (go_at_call 109; refine (cbit_any _ _ _).mono ?_; rintro e w6 ⟨rfl, rfl⟩))
    all_goals go_wp2_with fail
    all_goals go_ret
    all_goals exact HR.out _ (held2_below (by with_reducible assumption))
  rw [if_neg kc1] at HEQ hr
  have hT : decide (19 ≤ kind) = false ∨ (decide (19 ≤ kind) = true ∧ decide (kind ≤ 26) = false) := by
    by_cases h : 19 ≤ kind
    · exact .inr ⟨decide_eq_true h, decide_eq_false fun h2 => kc1 ⟨h, h2⟩⟩
    · exact .inl (decide_eq_false h)
  clear kc1
  by_cases k27 : kind = 27
  · subst k27
    rw [if_pos rfl] at HEQ hr
    rw [Bool.and_eq_true, beq_iff_eq] at hr
    obtain ⟨h2, h3⟩ := hr
    obtain ⟨x, rfl⟩ : ∃ x, kids = [x] := List.length_eq_one_iff.1 h2
    obtain ⟨k, hk⟩ : ∃ k, typedK [x] = some k := by
      cases h : typedK [x] with
      | none => rw [h] at h3; cases h3
      | some k => exact ⟨k, rfl⟩
    obtain ⟨u, hall⟩ := typedK_some hk
    have tx := hall x (by simp)
    dsimp only at HEQ
    obtain ⟨bk, ok, rfl, hbk, hc⟩ := HT.out.row.at_ (k := 0) (by simp)
    have hx0 : [x][0] = x := rfl
    rw [hx0] at hc
    have hkx := HT.out.each x (by simp)
    have HCX := hide (fun (W : World) (hb : Below W0.heap.size W0 W) => cval_of tx W Bm q (hkx.grow hb) (HM.out.block (hb.block _ HM.out.lt)) (HOK.out.2 x (by simp)) (HE.out x (by simp)) (HF.out x (by simp)))
    have lx := (val_size x (HE.out x (by simp)) k u tx).1
    generalize valF env x = vx at *
    obtain ⟨m1, m2, m3, m4, m5, m6, m7, m8, mK, mc, ml⟩ := x
    unfold cNd at hc HCX
    dsimp only at HCX
    obtain ⟨c0, c1, c2, c3, c4, c5, c6, c7, c8⟩ := nine hc
    simp only [Nat.zero_mul, Nat.add_zero] at c0 c1 c2 c3 c4 c5 c6 c7 c8
    have HR := hide (fun wr hb => HQ.out _ wr HEQ.out hb)
    have hS : W0.cell? ⟨w.heap.size, 8, none⟩ = some (.slice (some ⟨bk, ok, none⟩) [(Nd.mk m1 m2 m3 m4 m5 m6 m7 m8 mK mc ml)].length kc) ∧ W0.cell? ⟨w.heap.size + 1, 0, none⟩ = some (.map (some Bm)) ∧ W0.cell? ⟨bk, ok, none⟩ = some (.int .i64 m1) ∧ W0.cell? ⟨bk, ok + 1, none⟩ = some (.int .i64 m2) ∧ W0.cell? ⟨bk, ok + 2, none⟩ = some (.string m3) ∧ W0.cell? ⟨bk, ok + 3, none⟩ = some (.string m4) ∧ W0.cell? ⟨bk, ok + 4, none⟩ = some (.int .i64 m5) ∧ W0.cell? ⟨bk, ok + 5, none⟩ = some (.int .i64 m6) ∧ W0.cell? ⟨bk, ok + 6, none⟩ = some (.int .i64 m7) ∧ W0.cell? ⟨bk, ok + 7, none⟩ = some (.int .i64 m8) ∧ W0.cell? ⟨bk, ok + 8, none⟩ = some (.slice mK ml.length mc) ∧ Below W0.heap.size W0 W0 := ⟨y8, yv, c0, c1, c2, c3, c4, c5, c6, c7, c8, Below.refl _ _⟩
    have hS0 : W0.drew.cell? ⟨w.heap.size, 8, none⟩ = some (.slice (some ⟨bk, ok, none⟩) 1 kc) ∧ W0.drew.cell? ⟨w.heap.size + 1, 0, none⟩ = some (.map (some Bm)) ∧ W0.drew.cell? ⟨bk, ok, none⟩ = some (.int .i64 m1) ∧ W0.drew.cell? ⟨bk, ok + 1, none⟩ = some (.int .i64 m2) ∧ W0.drew.cell? ⟨bk, ok + 2, none⟩ = some (.string m3) ∧ W0.drew.cell? ⟨bk, ok + 3, none⟩ = some (.string m4) ∧ W0.drew.cell? ⟨bk, ok + 4, none⟩ = some (.int .i64 m5) ∧ W0.drew.cell? ⟨bk, ok + 5, none⟩ = some (.int .i64 m6) ∧ W0.drew.cell? ⟨bk, ok + 6, none⟩ = some (.int .i64 m7) ∧ W0.drew.cell? ⟨bk, ok + 7, none⟩ = some (.int .i64 m8) ∧ W0.drew.cell? ⟨bk, ok + 8, none⟩ = some (.slice mK ml.length mc) ∧ Below W0.heap.size W0 W0.drew := held1_step hS (below_drew (Below.refl _ _))
    clear hS HQ HEQ hc hkx h3 h2 hk hall tx hvs hT hx0
    go_upto_region 9 with (fail)
    clear y0 y1 y2 y3 y4 y5 y6 y7 y8 yv c0 c1 c2 c3 c4 c5 c6 c7 c8
    go_region_held3 (fun wx => wx.cell? ⟨w.heap.size, 8, none⟩ = some (.slice (some ⟨bk, ok, none⟩) 1 kc) ∧ wx.cell? ⟨w.heap.size + 1, 0, none⟩ = some (.map (some Bm)) ∧ wx.cell? ⟨bk, ok, none⟩ = some (.int .i64 m1) ∧ wx.cell? ⟨bk, ok + 1, none⟩ = some (.int .i64 m2) ∧ wx.cell? ⟨bk, ok + 2, none⟩ = some (.string m3) ∧ wx.cell? ⟨bk, ok + 3, none⟩ = some (.string m4) ∧ wx.cell? ⟨bk, ok + 4, none⟩ = some (.int .i64 m5) ∧ wx.cell? ⟨bk, ok + 5, none⟩ = some (.int .i64 m6) ∧ wx.cell? ⟨bk, ok + 6, none⟩ = some (.int .i64 m7) ∧ wx.cell? ⟨bk, ok + 7, none⟩ = some (.int .i64 m8) ∧ wx.cell? ⟨bk, ok + 8, none⟩ = some (.slice mK ml.length mc) ∧ Below W0.heap.size W0 wx)
      (first | (with_reducible assumption))
      (first
        | (go_at_call 52; refine (HCX.out _ (held1_below (by with_reducible assumption))).mono ?_; rintro e w2 ⟨rfl, hb2⟩; have s3 := held1_step (by with_reducible assumption) hb2; clear hb2)
        | (go_at_call 37; refine (known_any vx _ (by omega)).mono ?_; rintro e w5 ⟨rfl, hb5⟩; have s5 := held1_step (by with_reducible assumption) hb5; clear hb5)
        | (go_at_call 109; refine (cbit_any _ _ _).mono ?_; rintro e w6 ⟨rfl, rfl⟩))
    all_goals go_wp2_with fail
    all_goals go_ret
    all_goals exact HR.out _ (held1_below (by with_reducible assumption))
  rw [if_neg k27] at HEQ hr
  have T27 : (kind == 27) = false := beq_eq_false_iff_ne.2 k27
  by_cases k28 : kind = 28
  · subst k28
    rw [if_pos rfl] at HEQ hr
    obtain ⟨x, rfl, hrx⟩ : ∃ x, kids = [x] ∧ resF x = true := by
      match kids, hr with
      | [x], hr => exact ⟨x, rfl, hr⟩
      | [], hr => cases hr
      | _ :: _ :: _, hr => cases hr
    have hop := opd_any env 0 [x] x rfl (IH.out x (by simp [Nd.kids])) (.int .i64 28) (.int .i64 at_) (.string name) (.string value) (.int .i64 a) (.int .i64 b) (.int .i64 c) (.int .i64 d) KA kc w.heap.size (w.heap.size + 1) Bm q W0 HT.out HM.out HTAB.out (HOK.out.2 x (by simp)) (HE.out x (by simp)) (HF.out x (by simp)) hrx HG0.out HG1.out
    have htri := tru_tri env x hrx
    have lv : (truF env x).size ≤ 130 := tri_size htri
    have HR := hide (fun wr hb => HQ.out (applyS 8 [truF env x]) wr HEQ.out hb)
    have HOP := hide hop
    clear hop htri hr hrx HQ HEQ hvs hT
    generalize truF env x = v at *
    go_wp2_with first
      | (go_at_call 108; refine HOP.out.mono ?_; rintro e w2 ⟨rfl, hb2⟩; have HB2 := hide hb2; clear hb2)
      | (go_at_call 31; refine (apply_any ⟨8, 0, ⟨#[]⟩, ⟨#[]⟩, 0, 0, 0, 0, .slice none 0 0⟩ (some ⟨w2.heap.size, 0, none⟩) 1 [v] _ (strs_1 w2 v) (by simp) (by simp) (by intro z hz; simp at hz; subst hz; exact lv) (by unfold I64; decide) (by unfold I64; decide)).mono ?_; rintro e w3 ⟨rfl, hb3⟩; have HB3 := hide hb3; clear hb3)
    go_ret
    exact HR.out _ (bstep (HB2.out.alloc HB2.out.size _) HB3.out)
  rw [if_neg k28] at HEQ hr
  have T28 : (kind == 28) = false := beq_eq_false_iff_ne.2 k28
  by_cases k29 : kind = 29 ∨ kind = 30
  · rw [if_pos k29] at hr
    obtain ⟨x, y, rfl, hrx, hry⟩ : ∃ x y, kids = [x, y] ∧ resF x = true ∧ resF y = true := by
      match kids, hr with
      | [x, y], hr =>
        have hr : (resF x && resF y) = true := hr
        rw [Bool.and_eq_true] at hr
        exact ⟨x, y, rfl, hr.1, hr.2⟩
      | [], hr => cases hr
      | [_], hr => cases hr
      | _ :: _ :: _ :: _, hr => cases hr
    have hop := opd_any env 0 [x, y] x rfl (IH.out x (by simp [Nd.kids])) (.int .i64 kind) (.int .i64 at_) (.string name) (.string value) (.int .i64 a) (.int .i64 b) (.int .i64 c) (.int .i64 d) KA kc w.heap.size (w.heap.size + 1) Bm q W0 HT.out HM.out HTAB.out (HOK.out.2 x (by simp)) (HE.out x (by simp)) (HF.out x (by simp)) hrx HG0.out HG1.out
    have HOP2 := hide (fun (W : World) (hb : Below W0.heap.size W0 W) => opd_any env 1 [x, y] y rfl (IH.out y (by simp [Nd.kids])) (.int .i64 kind) (.int .i64 at_) (.string name) (.string value) (.int .i64 a) (.int .i64 b) (.int .i64 c) (.int .i64 d) KA kc w.heap.size (w.heap.size + 1) Bm q W (HT.out.grow hb) (HM.out.block (hb.block _ HM.out.lt)) (HTAB.out.below hb) (HOK.out.2 y (by simp)) (HE.out y (by simp)) (HF.out y (by simp)) hry ((hb.block _ (box_lt HG0.out)).trans HG0.out) ((hb.block _ (box_lt HG1.out)).trans HG1.out))
    have lv : (truF env x).size ≤ 130 := tri_size (tru_tri env x hrx)
    have lu : (truF env y).size ≤ 130 := tri_size (tru_tri env y hry)
    have HOP := hide hop
    rcases k29 with rfl | rfl
    · rw [if_pos rfl] at HEQ
      have HR := hide (fun wr hb => HQ.out (applyS 9 [truF env x, truF env y]) wr HEQ.out hb)
      clear hop hr hrx hry HQ HEQ hvs hT
      generalize truF env x = v at *
      generalize truF env y = u at *
      go_wp2_with first
        | (go_at_call 108; refine (HOP2.out _ HB2.out).mono ?_; rintro e w3 ⟨rfl, hb3⟩; have HB3 := hide (bstep HB2.out hb3); clear hb3)
        | (go_at_call 108; refine HOP.out.mono ?_; rintro e w2 ⟨rfl, hb2⟩; have HB2 := hide hb2; clear hb2)
        | (go_at_call 31; refine (apply_any ⟨9, 0, ⟨#[]⟩, ⟨#[]⟩, 0, 0, 0, 0, .slice none 0 0⟩ (some ⟨w3.heap.size, 0, none⟩) 2 [v, u] _ (strs_2 w3 v u) (by simp) (by simp) (by intro z hz; simp at hz; rcases hz with rfl | rfl; exact lv; exact lu) (by unfold I64; decide) (by unfold I64; decide)).mono ?_; rintro e w4 ⟨rfl, hb4⟩; have HB4 := hide hb4; clear hb4)
      go_ret
      exact HR.out _ (bstep (HB3.out.alloc HB3.out.size _) HB4.out)
    · rw [if_neg (by decide), if_pos rfl] at HEQ
      have HR := hide (fun wr hb => HQ.out (applyS 10 [truF env x, truF env y]) wr HEQ.out hb)
      clear hop hr hrx hry HQ HEQ hvs hT
      generalize truF env x = v at *
      generalize truF env y = u at *
      go_wp2_with first
        | (go_at_call 108; refine (HOP2.out _ HB2.out).mono ?_; rintro e w3 ⟨rfl, hb3⟩; have HB3 := hide (bstep HB2.out hb3); clear hb3)
        | (go_at_call 108; refine HOP.out.mono ?_; rintro e w2 ⟨rfl, hb2⟩; have HB2 := hide hb2; clear hb2)
        | (go_at_call 31; refine (apply_any ⟨10, 0, ⟨#[]⟩, ⟨#[]⟩, 0, 0, 0, 0, .slice none 0 0⟩ (some ⟨w3.heap.size, 0, none⟩) 2 [v, u] _ (strs_2 w3 v u) (by simp) (by simp) (by intro z hz; simp at hz; rcases hz with rfl | rfl; exact lv; exact lu) (by unfold I64; decide) (by unfold I64; decide)).mono ?_; rintro e w4 ⟨rfl, hb4⟩; have HB4 := hide hb4; clear hb4)
      go_ret
      exact HR.out _ (bstep (HB3.out.alloc HB3.out.size _) HB4.out)
  rw [if_neg k29] at hr
  rw [if_neg (fun h => k29 (.inl h)), if_neg (fun h => k29 (.inr h))] at HEQ
  have T29 : (kind == 29) = false := beq_eq_false_iff_ne.2 fun h => k29 (.inl h)
  have T30 : (kind == 30) = false := beq_eq_false_iff_ne.2 fun h => k29 (.inr h)
  have tn := of_decide_eq_true hr
  have hval := hvs _ tn W0 Bm q HT.out HM.out
  unfold cNd at hval
  dsimp only at hval
  have lv := LV.out 0 1 tn
  generalize valF env (.mk kind at_ name value a b c d KA kc kids) = v at *
  have HV := hide hval
  have HR := hide (fun wr hb => HQ.out _ wr HEQ.out hb)
  clear hvs hval hr tn HQ HEQ k27 k28 k29
  rcases hT with T19 | ⟨T19, T26⟩
  all_goals
    go_wp2_with first
      | (go_at_call 52; refine HV.out.mono ?_; rintro e w2 ⟨rfl, hb2⟩; have HB2 := hide hb2; clear hb2)
      | (go_at_call 37; refine (known_any v _ (by omega)).mono ?_; rintro e w5 ⟨rfl, hb5⟩; have HB5 := hide hb5; clear hb5)
      | (go_at_call 109; refine (cbit_any _ _ _).mono ?_; rintro e w6 ⟨rfl, rfl⟩)
    go_ret
    have hfin := HR.out _ (bstep HB2.out HB5.out)
    rw [str_dec v ⟨#[49]⟩, one_list] at hfin
    exact hfin

end Go.Proofs.YtdlebcijgdkfjaaGreatDoor

/-
  wavestorelaw51.few: the wave and the tree are small.
-/
namespace Go.Proofs.YtdlebcijgdkfjaaGreatDoor
open Go.RowKit

def Few51Post (v : Wv) (n : Nd) (w : World) (e : Ending) (w' : World) : Prop := ∃ b : Bool, e = .returned (.bool b) ∧ (b = true → SmallOk v ∧ FewOk 60 n) ∧ Below w.heap.size w w'
theorem SigsAt.grow {w w' : World} {A : Option Addr} {l : List Sgn} (h : SigsAt w (Lo w.heap.size) A l) (hb : Below w.heap.size w w') : SigsAt w' (Lo w'.heap.size) A l := ⟨h.row.grow hb, fun s hs => (h.each s hs).grow hb⟩

set_option maxRecDepth 100000 in
set_option maxHeartbeats 4000000 in
theorem few51_any (v : Wv) (gs : List (Int × Int)) (n : Nd) (w : World) (hS : SigsAt w (Lo w.heap.size) v.A v.sigs) (hG : Row w (Lo w.heap.size) 2 cGp v.G gs) (hgn : v.gn = gs.length) (hsz : ∀ s ∈ v.sigs, ∀ c ∈ s.chs, c.val.size ≤ 9223372036854775807) (ht : TreesAt w (Lo w.heap.size) n.KA n.kids) :
    Calls Tryz.prog 12 #[.agg (cWv v).toArray, .agg (cNd n).toArray] w (Few51Post v n w) := by
  have HSM := hide (fun (W : World) (hb : Below w.heap.size w W) => small_any v gs W (hS.grow hb) (hG.grow hb) hgn hsz)
  have HFW := hide (fun (W : World) (hb : Below w.heap.size w W) => few49_any 60 (by decide) n W (ht.grow hb))
  have HCL := hide (fun (W : World) (hb : Below w.heap.size w W) (h : FewOk 60 n) => clean_any n W (ht.grow hb) h)
  have HE := hide (fun (o : Bool) (wr : World) (h : o = true → SmallOk v ∧ FewOk 60 n) (hb : Below w.heap.size w wr) => show Few51Post v n w (.returned (.bool o)) wr from ⟨o, rfl, h, hb⟩)
  clear hS hG hgn hsz ht
  obtain ⟨A, cA, sigs, G, gn, cG, fin⟩ := v
  obtain ⟨kind, at_, name, value, a, b, c, d, KA, kc, kids⟩ := n
  unfold cWv cNd at *
  dsimp only at *
  generalize hvv : Wv.mk A cA sigs G gn cG fin = v at *
  generalize hnn : Nd.mk kind at_ name value a b c d KA kc kids = n at *
  clear hvv hnn
  obtain ⟨W0, hW0⟩ : ∃ W0, (w.alloc (.cells #[.slice A sigs.length cA, .slice G gn cG, .int .i64 fin] 29)).alloc (.cells #[.int .i64 kind, .int .i64 at_, .string name, .string value, .int .i64 a, .int .i64 b, .int .i64 c, .int .i64 d, .slice KA kids.length kc] 32) = W0 := ⟨_, rfl⟩
  obtain ⟨p0, p1, hb0⟩ := chain2 _ _ _ hW0
  have HB0 := hide hb0
  have HG0 := hide p0
  have HG1 := hide p1
  have hl0 := box_lt p0
  have hl1 := box_lt p1
  have c0 := cell_of_row W0 w.heap.size 0 _ _ (0, 0) p0
  have c1 := cell_of_row W0 w.heap.size 1 _ _ (0, 0) p0
  have c2 := cell_of_row W0 w.heap.size 2 _ _ (0, 0) p0
  simp only [List.getElem?_toArray, List.getElem?_cons_zero, List.getElem?_cons_succ] at c0 c1 c2
  have HW0 := hide hW0
  clear hW0 p0 p1 hb0
  go_enter Tryz.func12, Tryz.ntmps12
  go_upto_region 1 with (fail)
  rw [HW0.out]
  go_wp2_with fail
  refine (HSM.out W0 HB0.out).mono ?_
  rintro e w1 ⟨b1, rfl, hs1, hb1⟩
  have HS1 := hide hs1
  have HB1 := hide (bstep HB0.out hb1)
  obtain ⟨y0, y1, y2, y3, y4, y5, y6, y7, y8⟩ := box9 ((hb1.block _ hl1).trans HG1.out)
  have HG11 := hide ((hb1.block _ hl1).trans HG1.out)
  have hl11 := box_lt ((hb1.block _ hl1).trans HG1.out)
  clear hs1 hb1 c0 c1 c2
  cases b1 with
  | false =>
    go_wp2_with fail
    go_ret
    exact HE.out false _ (fun h => by cases h) HB1.out
  | true =>
    go_wp2_with fail
    refine (HFW.out w1 HB1.out).mono ?_
    rintro e w2 ⟨b2, rfl, hs2, hb2⟩
    have HB2 := hide (bstep HB1.out hb2)
    clear y0 y1 y2 y3 y4 y5 y6 y7 y8
    obtain ⟨y0, y1, y2, y3, y4, y5, y6, y7, y8⟩ := box9 ((hb2.block _ hl11).trans HG11.out)
    have HS2 := hide hs2
    clear hs2 hb2
    cases b2 with
    | false =>
      go_wp2_with fail
      go_ret
      exact HE.out false _ (fun h => by cases h) HB2.out
    | true =>
      have HCX := hide (HCL.out w2 HB2.out (HS2.out rfl))
      go_wp2_with fail
      refine HCX.out.mono ?_
      rintro e w3 ⟨b3, rfl, hb3⟩
      have HB3 := hide (bstep HB2.out hb3)
      clear hb3 y0 y1 y2 y3 y4 y5 y6 y7 y8
      go_wp2_with fail
      go_ret
      exact HE.out b3 _ (fun _ => ⟨HS1.out (by first | trivial | rfl), HS2.out (by first | trivial | rfl)⟩) HB3.out

end Go.Proofs.YtdlebcijgdkfjaaGreatDoor
