/-
  Several texts in one: EIsE, COf, OfM, RangeRelA. Each says at its head what it holds.
-/
import Derived.Test.YtaaplalfggofiaaGreatDoorEC20
import Derived.Test.YtaaplalfggofiaaGreatDoorEC17
import Derived.Test.YtaaplalfggofiaaGreatDoorEC15
import Derived.Test.YtaaplalfggofiaaGreatDoorEC18
import Derived.Test.YtaaplalfggofiaaGreatDoorEC7
import Derived.Test.YtaaplalfggofiaaGreatDoorShelf
import Derived.Lib.OwnBridge
import Derived.Deep.DeepCutAuto
import Derived.Deep.CutBlock
import Derived.Test.YtaaplalfggofiaaGreatDoorEC12
import Derived.Test.YtaaplalfggofiaaGreatDoorEC14
import Derived.Deep.RegionHeld3
import Derived.Outline
import Derived.Test.YtaaplalfggofiaaGreatDoorEC13

/-
  event.Is: the kinds of events, through a map of functions.
-/
namespace Go.Proofs.YtaaplalfggofiaaGreatDoor
open Go.RowKit

/-- how the map of the kinds reads: a function by its number -/
def funR : Value → Option (DataW Unit × List MemPlace)
  | .func (.func f) ⟨[]⟩ ⟨[]⟩ => some (.lit (.int .i64 f), [])
  | .nilFunc => some (.lit (.int .i64 (-1)), [])
  | _ => none
def kindD : DataW Unit := (((((DataW.map []).put (.int .i64 37) (.lit (.int .i64 314))).put (.int .i64 38) (.lit (.int .i64 315))).put (.int .i64 39) (.lit (.int .i64 316))).put (.int .i64 40) (.lit (.int .i64 318))).put (.int .i64 41) (.lit (.int .i64 319))

set_option maxRecDepth 100000 in
set_option maxHeartbeats 8000000 in
theorem kinds_any (w : World) : Calls Tryz.prog 273 #[] w fun e w' => ∃ B, e = .returned (.map (some B)) ∧ w'.ownsMap Tryz.prog 3 funR B 5 kindD ∧ Below w.heap.size w w' := by
  have hmm := @run_makeMap Tryz.prog
  have hb0 : Below w.heap.size w (w.alloc (.map #[] 0)) := (Below.refl _ _).alloc (Nat.le_refl _) _
  have HB : ∀ g, some w.heap.size = some g → w.heap.size ≤ g := fun g h => by injection h with h; omega
  have hown : (w.alloc (.map #[] 0)).ownsMap Tryz.prog 3 funR w.heap.size 0 (.map []) := World.ownsMap_made _ _ _ _
  obtain ⟨V1, r1, o1, g1⟩ := hown.update intKeyB Tryz.underlying339 (by unfold maxLen; omega) (keyOf_B (i := 37) (by unfold I64; omega)) (val := .func (.func 314) #[] #[]) (d := .lit (.int .i64 314)) (ps := []) rfl
  obtain ⟨V2, r2, o2, g2⟩ := o1.update intKeyB Tryz.underlying339 (by unfold maxLen; omega) (keyOf_B (i := 38) (by unfold I64; omega)) (val := .func (.func 315) #[] #[]) (d := .lit (.int .i64 315)) (ps := []) rfl
  obtain ⟨V3, r3, o3, g3⟩ := o2.update intKeyB Tryz.underlying339 (by unfold maxLen; omega) (keyOf_B (i := 39) (by unfold I64; omega)) (val := .func (.func 316) #[] #[]) (d := .lit (.int .i64 316)) (ps := []) rfl
  obtain ⟨V4, r4, o4, g4⟩ := o3.update intKeyB Tryz.underlying339 (by unfold maxLen; omega) (keyOf_B (i := 40) (by unfold I64; omega)) (val := .func (.func 318) #[] #[]) (d := .lit (.int .i64 318)) (ps := []) rfl
  obtain ⟨V5, r5, o5, g5⟩ := o4.update intKeyB Tryz.underlying339 (by unfold maxLen; omega) (keyOf_B (i := 41) (by unfold I64; omega)) (val := .func (.func 319) #[] #[]) (d := .lit (.int .i64 319)) (ps := []) rfl
  have b1 := hb0.grown g1 hb0.size HB
  have b2 := b1.grown g2 b1.size HB
  have b3 := b2.grown g3 b2.size HB
  have b4 := b3.grown g4 b3.size HB
  have hb := b4.grown g5 b4.size HB
  go_enter Tryz.func273, Tryz.ntmps273
  go_wp2_with fail
  go_ret
  exact ⟨_, rfl, o5, hb⟩

set_option maxRecDepth 100000 in
set_option maxHeartbeats 8000000 in
theorem kind1_any (a b : ByteArray) (w : World) : Calls Tryz.prog 314 #[.string a, .string b] w fun e w' => e = .returned (.bool (isEv 37 a b)) ∧ w = w' := by
  cases ha : (a.toList == [48])
  all_goals
    go_enter Tryz.func314, Tryz.ntmps314
    go_wp2_with fail
    go_ret
    exact ⟨by simp [isEv, eq1, ha], rfl⟩

set_option maxRecDepth 100000 in
set_option maxHeartbeats 8000000 in
theorem kind2_any (a b : ByteArray) (w : World) : Calls Tryz.prog 315 #[.string a, .string b] w fun e w' => e = .returned (.bool (isEv 38 a b)) ∧ w = w' := by
  cases ha : (a.toList == [49])
  all_goals
    go_enter Tryz.func315, Tryz.ntmps315
    go_wp2_with fail
    go_ret
    exact ⟨by simp [isEv, eq1, ha], rfl⟩

set_option maxRecDepth 100000 in
set_option maxHeartbeats 8000000 in
theorem kind3_any (a b : ByteArray) (w : World) : Calls Tryz.prog 316 #[.string a, .string b] w fun e w' => e = .returned (.bool (isEv 39 a b)) ∧ w = w' := by
  rcases str_cls a with rfl | rfl | rfl | rfl | ⟨⟨a0, a1, a2, a3⟩, e0, e1, e2, e3⟩ <;> rcases str_cls b with rfl | rfl | rfl | rfl | ⟨⟨b0, b1, b2, b3⟩, f0, f1, f2, f3⟩
  all_goals
    go_enter Tryz.func316, Tryz.ntmps316
    go_wp2_with (go_at_call 317; refine (unkE _ _).mono ?_; rintro e w' ⟨rfl, rfl⟩; simp only [unkB, eq1, *])
    go_ret
    refine ⟨?_, rfl⟩
    simp [isEv, unkB, eq1_lit, *]

set_option maxRecDepth 100000 in
set_option maxHeartbeats 8000000 in
theorem kind4_any (a b : ByteArray) (w : World) : Calls Tryz.prog 318 #[.string a, .string b] w fun e w' => e = .returned (.bool (isEv 40 a b)) ∧ w = w' := by
  rcases str_cls a with rfl | rfl | rfl | rfl | ⟨⟨a0, a1, a2, a3⟩, e0, e1, e2, e3⟩ <;> rcases str_cls b with rfl | rfl | rfl | rfl | ⟨⟨b0, b1, b2, b3⟩, f0, f1, f2, f3⟩
  all_goals
    go_enter Tryz.func318, Tryz.ntmps318
    go_wp2_with (go_at_call 317; refine (unkE _ _).mono ?_; rintro e w' ⟨rfl, rfl⟩; simp only [unkB, eq1, *])
    go_ret
    refine ⟨?_, rfl⟩
    simp [isEv, unkB, eq1_lit, *]

set_option maxRecDepth 100000 in
set_option maxHeartbeats 8000000 in
theorem kind5_any (a b : ByteArray) (w : World) : Calls Tryz.prog 319 #[.string a, .string b] w fun e w' => e = .returned (.bool (isEv 41 a b)) ∧ w = w' := by
  cases hab : (a.toList == b.toList)
  all_goals
    go_enter Tryz.func319, Tryz.ntmps319
    go_wp2_with fail
    go_ret
    exact ⟨by simp [isEv, bne, hab], rfl⟩
theorem zeroF (w : World) : (zeroValue 315).run Tryz.prog w = .ok .nilFunc w := by kernel_rfl
theorem funR_inv {v : Value} {f : Nat} {ps : List MemPlace} (h : funR v = some (.lit (.int .i64 (f : Int)), ps)) : v = .func (.func f) #[] #[] := by
  unfold funR at h
  split at h
  · rename_i g
    injection h with h
    injection h with h1 h2
    injection h1 with h1
    injection h1 with _ h1
    rw [Int.ofNat_inj.1 h1]
  · injection h with h
    injection h with h1 h2
    injection h1 with h1
    injection h1 with _ h1
    omega
  · cases h
theorem kind_has : Maps.has kindD (.int .i64 37) = true ∧ Maps.has kindD (.int .i64 38) = true ∧ Maps.has kindD (.int .i64 39) = true ∧ Maps.has kindD (.int .i64 40) = true ∧ Maps.has kindD (.int .i64 41) = true := by
  refine ⟨?_, ?_, ?_, ?_, ?_⟩ <;> rfl
theorem kind_no {k : Int} (h7 : k ≠ 37) (h8 : k ≠ 38) (h9 : k ≠ 39) (h10 : k ≠ 40) (h11 : k ≠ 41) : Maps.has kindD (.int .i64 k) = false := by
  have hne : ∀ j : Int, k ≠ j → (Lit.int .i64 k) ≠ .int .i64 j := fun j h e => h (by injection e)
  unfold kindD
  rw [Maps.has_put_other (hne _ h11), Maps.has_put_other (hne _ h10), Maps.has_put_other (hne _ h9), Maps.has_put_other (hne _ h8), Maps.has_put_other (hne _ h7)]
  rfl

set_option maxRecDepth 100000 in
set_option maxHeartbeats 8000000 in
theorem is_any (kind : Int) (a b : ByteArray) (w : World) (hk : I64 kind) : Calls Tryz.prog 211 #[.int .i64 kind, .string a, .string b] w (RetV (.bool (isEv kind a b)) w) := by
  go_enter Tryz.func211, Tryz.ntmps211
  go_wp2_with fail
  refine (kinds_any w).mono ?_
  rintro e w2 ⟨B, rfl, hown, hb⟩
  have HB := hide hb
  have hlook := hown.look_ok intKeyB Tryz.underlying339 (zeroF w2) (zd := .lit (.int .i64 (-1))) (zp := []) rfl (keyOf_B hk)
  obtain ⟨v, ps, hrun, hv⟩ := hlook
  clear hown hb
  by_cases k1 : kind = 37
  · subst k1
    rw [kind_has.1] at hrun
    obtain rfl := funR_inv (f := 314) hv
    have HK := hide (kind1_any a b w2)
    clear hv
    go_wp2_with fail
    refine HK.out.mono ?_
    rintro e w3 ⟨rfl, rfl⟩
    go_wp2_with fail
    go_ret
    exact ⟨rfl, HB.out⟩
  by_cases k2 : kind = 38
  · subst k2
    rw [kind_has.2.1] at hrun
    obtain rfl := funR_inv (f := 315) hv
    have HK := hide (kind2_any a b w2)
    clear hv
    go_wp2_with fail
    refine HK.out.mono ?_
    rintro e w3 ⟨rfl, rfl⟩
    go_wp2_with fail
    go_ret
    exact ⟨rfl, HB.out⟩
  by_cases k3 : kind = 39
  · subst k3
    rw [kind_has.2.2.1] at hrun
    obtain rfl := funR_inv (f := 316) hv
    have HK := hide (kind3_any a b w2)
    clear hv
    go_wp2_with fail
    refine HK.out.mono ?_
    rintro e w3 ⟨rfl, rfl⟩
    go_wp2_with fail
    go_ret
    exact ⟨rfl, HB.out⟩
  by_cases k4 : kind = 40
  · subst k4
    rw [kind_has.2.2.2.1] at hrun
    obtain rfl := funR_inv (f := 318) hv
    have HK := hide (kind4_any a b w2)
    clear hv
    go_wp2_with fail
    refine HK.out.mono ?_
    rintro e w3 ⟨rfl, rfl⟩
    go_wp2_with fail
    go_ret
    exact ⟨rfl, HB.out⟩
  by_cases k5 : kind = 41
  · subst k5
    rw [kind_has.2.2.2.2] at hrun
    obtain rfl := funR_inv (f := 319) hv
    have HK := hide (kind5_any a b w2)
    clear hv
    go_wp2_with fail
    refine HK.out.mono ?_
    rintro e w3 ⟨rfl, rfl⟩
    go_wp2_with fail
    go_ret
    exact ⟨rfl, HB.out⟩
  rw [kind_no k1 k2 k3 k4 k5] at hrun
  have HE := hide (show isEv kind a b = false by unfold isEv; rw [if_neg k1, if_neg k2, if_neg k3, if_neg k4, if_neg k5])
  clear k1 k2 k3 k4 k5 hv
  go_wp2_with fail
  go_ret
  rw [HE.out]
  exact ⟨rfl, HB.out⟩

end Go.Proofs.YtaaplalfggofiaaGreatDoor

/-
  condition.Of: where a value of one bit is true and false; condition.within.
-/
namespace Go.Proofs.YtaaplalfggofiaaGreatDoor
open Go.RowKit

set_option maxRecDepth 100000 in
theorem within_any (v : Wv) (L c : Int) (M : Nat) (f t : Int) (w : World) (h : SourceAt w M v L c) : Calls Tryz.prog 55 #[srcV M, .int .i64 f, .int .i64 t] w fun e w' => e = .returned (.bool (decide (0 ≤ f) && decide (f ≤ t) && decide (t ≤ v.fin))) ∧ w = w' := by
  have HE := hide (end_any M v L c w h)
  have hm := meth_end (some ⟨M, 0, none⟩)
  unfold srcV
  clear h
  by_cases h1 : 0 ≤ f
  · have T1 : decide (0 ≤ f) = true := decide_eq_true h1
    by_cases h2 : f ≤ t
    · have T2 : decide (f ≤ t) = true := decide_eq_true h2
      go_enter Tryz.func55, Tryz.ntmps55
      go_wp2_with fail
      refine HE.out.mono ?_
      rintro e w' ⟨rfl, rfl⟩
      go_wp2_with fail
      go_ret
      exact ⟨by first | rfl | (rw [T1, T2]; rfl), rfl⟩
    · have T2 : decide (f ≤ t) = false := decide_eq_false h2
      go_enter Tryz.func55, Tryz.ntmps55
      go_wp2_with fail
      go_ret
      exact ⟨by first | rfl | (rw [T1, T2]; rfl), rfl⟩
  · have T1 : decide (0 ≤ f) = false := decide_eq_false h1
    go_enter Tryz.func55, Tryz.ntmps55
    go_wp2_with fail
    go_ret
    exact ⟨by first | rfl | (rw [T1]; rfl), rfl⟩

end Go.Proofs.YtaaplalfggofiaaGreatDoor

/-
  The loop of runs.Of in memory: the list so far in its box, the boxes that the iterator has caught.
-/
namespace Go.Proofs.YtaaplalfggofiaaGreatDoor
open Go.RowKit Go.Shelf

theorem own_cellsT {w : World} {base : Nat} {e : TypeId} {size n : Nat} {A : Option Addr} {c : Nat} {xs : List Value} (h : w.ownsRow base e size (.slice A n c) n xs) {g : Nat} (hg : ob A = some g) : ∃ cs, w.heap[g]? = some (.cells cs e (0, 0)) := by
  rcases h.2 with ⟨h3, _⟩ | ⟨g', cap, cur, h3, _, h4, _⟩
  · rw [← ob_eq A n c, h3] at hg; cases hg
  · rw [← ob_eq A n c, h3] at hg
    have : g' = g := by simpa [Value.ownBlock] using hg
    subst this
    exact ⟨cur, h4⟩

/-- what the loop has at hand: the world at the entry, the source, the error's box, the base of its list, the list's box (the caught boxes lie behind it) -/
structure OFix where
  w : World
  M : Nat
  E : Nat
  B : Nat
  O : Nat
structure OFix.Ok (F : OFix) : Prop where
  m : F.M < F.w.heap.size
  e : F.w.heap.size + 2 ≤ F.E
  b : F.E < F.B
  o : F.B ≤ F.O
structure OfI (F : OFix) (f k to_ : Int) (l : List Spn) (A : Option Addr) (c : Nat) (W : World) : Prop where
  box : W.heap[F.O]? = some (.cells #[.slice A l.length c] 65 (0, 0))
  own : OwnSp W F.B A c l
  ch : ChB W (F.O + 1 + 1 + 1) (F.O + 1) (F.O + 1 + 1) (F.O + 1 + 1 + 1 + 1 + 1) (F.O + 1 + 1 + 1 + 1) f k to_ F.M F.E
  but : But F.w.heap.size (some F.M) F.w W
  r0 : W.heap[F.w.heap.size]? = some (.cells #[.slice none 0 0] 65 (0, 0))
  r1 : W.heap[F.w.heap.size + 1]? = some (errO 0)
def OI (F : OFix) (f k to_ : Int) (l : List Spn) (W : World) : Prop := ∃ A c, OfI F f k to_ l A c W

section
variable {F : OFix} {f k to_ : Int} {l : List Spn} {A : Option Addr} {c : Nat} {W W' : World}
theorem OfI.move (ok : F.Ok) (h : OfI F f k to_ l A c W) (hos : W'.os = W.os) (ht : W'.tape = W.tape) (hp : W'.output = W.output) (hsz : W.heap.size ≤ W'.heap.size)
    (h1 : ∀ b, b < F.w.heap.size → b ≠ F.M → W'.heap[b]? = W.heap[b]?) (h2 : ∀ (b : Nat) (cs : Array Value) (t : TypeId), b ≠ F.M → b ≠ F.E → W.heap[b]? = some (.cells cs t (0, 0)) → W'.heap[b]? = some (.cells cs t (0, 0))) : OfI F f k to_ l A c W' := by
  have o1 := ok.m
  have o2 := ok.e
  have o3 := ok.b
  have o4 := ok.o
  refine ⟨h2 _ _ _ (by omega) (by omega) h.box, own_block h.own fun g hg => ?_, ⟨h2 _ _ _ (by omega) (by omega) h.ch.f, h2 _ _ _ (by omega) (by omega) h.ch.s, h2 _ _ _ (by omega) (by omega) h.ch.g, h2 _ _ _ (by omega) (by omega) h.ch.e, h2 _ _ _ (by omega) (by omega) h.ch.t⟩,
    ⟨hos.trans h.but.os, ht.trans h.but.tape, hp.trans h.but.output, Nat.le_trans h.but.size hsz, fun b hb hn => ?_⟩, h2 _ _ _ (by omega) (by omega) h.r0, h2 _ _ _ (by omega) (by omega) h.r1⟩
  · obtain ⟨cs, hcs⟩ := own_cellsT h.own hg
    have := (own_ob h.own g hg).1
    rw [hcs]
    exact h2 _ _ _ (by omega) (by omega) hcs
  · rw [h1 b hb (fun e => hn (by rw [e]))]
    exact h.but.block b hb hn
theorem OfI.step (ok : F.Ok) (h : OfI F f k to_ l A c W) (hs : StepR F.M F.E W W') : OfI F f k to_ l A c W' := by
  have o1 := ok.m
  have o2 := ok.e
  have o3 := h.but.size
  refine h.move ok hs.1 hs.2.1 hs.2.2.1 hs.2.2.2.1 (fun b hb hn => hs.2.2.2.2 b (by omega) hn (by omega)) (fun b cs t h1 h2 h3 => (hs.2.2.2.2 b (box_lt h3) h1 h2).trans h3)
theorem OfI.grown (ok : F.Ok) (h : OfI F f k to_ l A c W) {row : Option Nat} (hg : W.grownBy W' row) (hr : ∀ r, row = some r → F.w.heap.size ≤ r ∧ ∃ o : Obj, W.heap[r]? = some o ∧ o.isCells = false) : OfI F f k to_ l A c W' := by
  have o3 := h.but.size
  refine h.move ok hg.os hg.tape hg.output hg.size (fun b hb hn => hg.block b (by omega) (fun e => by have := (hr b e.symm).1; omega)) (fun b cs t h1 h2 h3 => ?_)
  refine (hg.block b (box_lt h3) fun e => ?_).trans h3
  obtain ⟨_, o', h4, h5⟩ := hr b e.symm
  rw [h3] at h4; injection h4 with h4; subst h4; cases h5
theorem OfI.below (ok : F.Ok) (h : OfI F f k to_ l A c W) (hb : Below W.heap.size W W') : OfI F f k to_ l A c W' := h.step ok (StepR.below hb)
/-- behind the append of a round -/
theorem OfI.push (ok : F.Ok) (h : OfI F f k to_ l A c W) {l' : List Spn} {A' : Option Addr} {c' : Nat} (ho : OwnSp W' F.B A' c' l') (hb : But W.heap.size (ob A) W W') {W9 : World} (hW : W'.setCell ⟨F.O, 0, none⟩ (.slice A' l'.length c') = W9) :
    OfI F f k to_ l' A' c' W9 ∧ (∀ base, KeepsFrom base W W9) ∧ KpC F.M F.E (F.O + 1 + 1 + 1) (F.O + 1) (F.O + 1 + 1) (F.O + 1 + 1 + 1 + 1 + 1) (F.O + 1 + 1 + 1 + 1) W W9 := by
  have o1 := ok.m
  have o2 := ok.e
  have o3 := ok.b
  have o4 := ok.o
  have lo := box_lt h.box
  have old : ∀ (b : Nat), b < W.heap.size → b ≠ F.O → ob A ≠ some b → W9.heap[b]? = W.heap[b]? := fun b h1 h2 h3 => by
    rw [← hW, set_cell_other h2]
    exact hb.block b h1 (fun e => h3 e.symm)
  have noA : ∀ (b : Nat) (cs : Array Value) (t : TypeId), W.heap[b]? = some (.cells cs t (0, 0)) → t ≠ 70 → ob A ≠ some b := fun b cs t h1 h2 e => by
    obtain ⟨cs', h3⟩ := own_cellsT h.own e
    rw [h1] at h3
    injection h3 with h3
    injection h3 with _ h3
    exact h2 h3
  have noA' : ob A' ≠ some F.O := fun e => by
    obtain ⟨cs', h3⟩ := own_cellsT ho e
    rw [hb.block F.O lo (fun e => noA _ _ _ h.box (by decide) e.symm), h.box] at h3
    injection h3 with h3
    injection h3 with _ h3
    cases h3
  have lowA : ∀ b, b < F.B → ob A ≠ some b := fun b hlt e => by have := (own_ob h.own b e).1; omega
  have cell : ∀ (b : Nat) (cs : Array Value) (t : TypeId), b ≠ F.O → W.heap[b]? = some (.cells cs t (0, 0)) → t ≠ 70 → W9.heap[b]? = some (.cells cs t (0, 0)) := fun b cs t h1 h2 h3 => (old b (box_lt h2) h1 (noA b cs t h2 h3)).trans h2
  have hO := hb.block F.O lo (fun e => noA _ _ _ h.box (by decide) e.symm)
  have hsz : W.heap.size ≤ W9.heap.size := by rw [← hW]; simp [World.setCell]; exact hb.size
  refine ⟨⟨?_, ?_, ⟨cell _ _ _ (by omega) h.ch.f (by decide), cell _ _ _ (by omega) h.ch.s (by decide), cell _ _ _ (by omega) h.ch.g (by decide), cell _ _ _ (by omega) h.ch.e (by decide), cell _ _ _ (by omega) h.ch.t (by decide)⟩, ⟨?_, ?_, ?_, ?_, fun b hb' hn => ?_⟩, ?_, ?_⟩, fun base => ⟨hsz, fun j o _ h1 h2 => ?_⟩, fun b hb' => ?_, fun b cs h1 => ?_⟩
  · rw [← hW]; exact box_set1 (hO.trans h.box)
  · rw [← hW]
    exact own_block ho fun g hg => set_cell_other (fun e => noA' (by rw [hg, e]))
  · rw [← hW]; exact hb.os.trans h.but.os
  · rw [← hW]; exact hb.tape.trans h.but.tape
  · rw [← hW]; exact hb.output.trans h.but.output
  · exact Nat.le_trans h.but.size hsz
  · have := h.but.size
    rw [old b (by omega) (by omega) (lowA b (by omega))]
    exact h.but.block b hb' hn
  · exact (old _ (box_lt h.r0) (by omega) (lowA _ (by omega))).trans h.r0
  · exact (old _ (box_lt h.r1) (by omega) (lowA _ (by omega))).trans h.r1
  · rw [old j (box_lt h1) (fun e => by subst e; rw [h.box] at h1; injection h1 with h1; subst h1; cases h2) (fun e => by
      obtain ⟨cs', h3⟩ := own_cellsT h.own e
      rw [h1] at h3; injection h3 with h3; subst h3; cases h2)]
    exact h1
  · rcases hb' with hb' | rfl | rfl | rfl | rfl | rfl | rfl
    · exact old b (by omega) (by omega) (lowA b (by omega))
    · exact old _ (by omega) (by omega) (lowA _ (by omega))
    · exact (cell _ _ _ (by omega) h.ch.f (by decide)).trans h.ch.f.symm
    · exact (cell _ _ _ (by omega) h.ch.s (by decide)).trans h.ch.s.symm
    · exact (cell _ _ _ (by omega) h.ch.g (by decide)).trans h.ch.g.symm
    · exact (cell _ _ _ (by omega) h.ch.e (by decide)).trans h.ch.e.symm
    · exact (cell _ _ _ (by omega) h.ch.t (by decide)).trans h.ch.t.symm
  · exact cell _ _ _ (fun e => by subst e; rw [h.box] at h1; injection h1 with h1; injection h1 with _ h1; cases h1) h1 (by decide)
end

end Go.Proofs.YtaaplalfggofiaaGreatDoor

/-
  The law range_rel where the loop's own variable lies in a block that the assign code lays in every round.
-/
namespace Go.Proofs.YtaaplalfggofiaaGreatDoor
open Go.RowKit Go.Shelf

/-- the law: a loop over such an iterator, outside of every other such loop; the body may write whatever lay ahead of the loop -/
theorem range_relA {P : Program} {n : Nat} {α : Type} {g : Operand} {ps : Array Tmp} {assign body : Code} {Q : Exit → Act → World → Prop} {a : Act} {w : World}
    (h1 : 1 ≤ n) {gf : Nat} {lb : Array Value} (hg : a.eval g = .func (.func gf) #[] lb) (eg : ∀ args w, (callFunc gf args).run P w = .ok (.enter gf args) w)
    {encs : α → Array Value} {R : World → World → Prop} (hR : ∀ W W', R W W' → ∀ b, w.heap.size ≤ b → b < W.heap.size → W'.heap[b]? = W.heap[b]?) {Kp : World → World → Prop} {S Sp : List α → Prop} {T : List α → World → Prop} {N : Nat} (hseq : SeqRel (n - 1) P gf lb encs R Kp S Sp T N w) (hT : OwnFrom w.heap.size T)
    (hKt : ∀ {A B C : World}, Kp A B → Kp B C → Kp A C) (hKb : ∀ (W : World) (l : Nat) (o o' : Obj), w.heap.size ≤ l → W.heap[l]? = some o → o.isCells = false → o.isWalk = false → Kp W (W.putObj l o')) (hps : ∀ x, (encs x).size = ps.size)
    (I : List α → World → Prop) (Ix : Code → List α → World → Prop) (hI : OwnFrom w.heap.size I) (hIx : ∀ c, OwnFrom w.heap.size (Ix c)) (fI : RFree R I) (fIx : ∀ c, RFree R (Ix c)) (h0 : I [] w) (Ax : List α → α → Act → World → Prop) (hAx : ∀ x a, OwnFrom w.heap.size (fun pre W => Ax pre x a W))
    (hassign : ∀ (l : Nat) (pre : List α) (x : α) (W : World) (K : Act → World → Prop), w.heap.size ≤ l → l < W.heap.size → I pre W → pre.length < N → (∀ a₁ W', KeepsFrom w.heap.size W W' → Kp W W' → Ax pre x a₁ W' → K a₁ W') →
      assign.wpIn (Fence.wide.inRound l) (n - 1 - 1) P (Exit.then K (fun _ _ _ => False)) { tmps := (ps.zip (encs x)).foldl (fun t (p, v) => t.setIfInBounds p v) a.tmps, defers := [] } W)
    (hbody : ∀ (l : Nat) (pre : List α) (x : α) (a₁ : Act) (W : World), w.heap.size ≤ l → l < W.heap.size → Ax pre x a₁ W → pre.length < N → body.wpIn (Fence.wide.inRound l) (n - 1 - 1) P (ownPostG w.heap.size Kp I Ix (pre ++ [x]) W) a₁ W)
    (hdone : ∀ (D : Nat) (xs : List α) (W : World), w.heap.size ≤ D → S xs → I xs W → T xs W → W.heap[D]? = some (.deferred (some [])) → Q .normal { a with defers := { target := .collected D, args := #[] } :: a.defers } W)
    (hstop : ∀ (D : Nat) (c : Code) (pre : List α) (W : World), w.heap.size ≤ D → Sp pre → Ix c pre W → W.heap[D]? = some (.deferred (some [])) → c.wpIn Fence.wide n P Q { a with defers := { target := .collected D, args := #[] } :: a.defers } W) :
    (Code.rangeFunc g ps assign body).wpIn Fence.wide n P Q a w := by
  refine wpIn_rangeFunc ?_
  intro fn hfn
  obtain ⟨rec, hrec⟩ : ∃ rec : LoopState → Option Code → Loop, rec = fun st pe => { state := st, pending := pe, fn, tmps := a.tmps, params := ps, assign, body, defers := w.heap.size } := ⟨_, rfl⟩
  have hup : ∀ s p s' p', ({ rec s p with state := s', pending := p' } : Loop) = rec s' p' := fun _ _ _ _ => by rw [hrec]
  have hst : ∀ s p, (rec s p).state = s := fun _ _ => by rw [hrec]
  obtain ⟨K, hK⟩ : ∃ K : Nat, K = w.heap.size := ⟨_, rfl⟩
  -- the two blocks of book-keeping
  let Bk : LoopState → Option Code → World → Prop := fun s p W => W.heap[K + 1]? = some (.loop (rec s p)) ∧ W.heap[K]? = some (.deferred (some []))
  have bkR : ∀ s p W W', Bk s p W → R W W' → Bk s p W' := fun s p W W' hb hr =>
    ⟨(hR W W' hr (K + 1) (by omega) (Array.getElem?_eq_some_iff.1 hb.1).1).trans hb.1, (hR W W' hr K (by omega) (Array.getElem?_eq_some_iff.1 hb.2).1).trans hb.2⟩
  have bkPut : ∀ s p s' p' W, Bk s p W → Bk s' p' (W.putObj (K + 1) (.loop (rec s' p'))) := fun s p s' p' W hb =>
    ⟨World.putObj_heap_same (Array.getElem?_eq_some_iff.1 hb.1).1, (World.putObj_heap_other (by omega)).trans hb.2⟩
  obtain ⟨W1, hW1⟩ : ∃ W1, (w.alloc (.deferred (some []))).alloc (.loop (rec .ready none)) = W1 := ⟨_, rfl⟩
  have hBk1 : Bk .ready none W1 := by
    subst hK
    rw [← hW1]
    refine ⟨?_, (Below.heap_alloc _ _ _ (by simp)).trans (World.alloc_heap_new w _)⟩
    have := World.alloc_heap_new (w.alloc (.deferred (some []))) (.loop (rec .ready none))
    rwa [World.size_alloc] at this
  have hI1 : I [] W1 := by rw [← hW1]; exact hI.alloc _ (hI.alloc _ h0)
  have hb1 : Below w.heap.size w W1 := by
    rw [← hW1]; exact ((Below.refl _ w).alloc (Nat.le_refl _) _).alloc (by simp) _
  refine ⟨w.heap.size + 1, [{ target := .collected w.heap.size, args := #[] }], W1, { target := .fn (.func gf) lb, args := #[.func (.yield (w.heap.size + 1)) #[] #[]] }, W1, gf,
    #[.func (.yield (w.heap.size + 1)) #[] #[]] ++ lb, W1, ?_, ?_, ?_, ?_, fun _ => h1, ?_⟩
  · rw [← hW1, hrec]; exact run_enterLoop_outer _ _ _ _ _
  · simp only [resolve, hg]
    simp [go_sem]
  · intro f' hf'; simp [Target.leads] at hf'; subst hf'; trivial
  · simp [invoke, go_sem, eg]
  rw [← hK]
  refine (hseq (K + 1) (fun pre W => I pre W ∧ Bk .ready none W) (fun pre W => ∃ c, Ix c pre W ∧ Bk .done (some c) W) W1 hb1
    (fun s W W' hs hr => ⟨fI s W W' hs.1 hr, bkR _ _ W W' hs.2 hr⟩) (fun s W W' hs hr => by obtain ⟨c, h2, h3⟩ := hs; exact ⟨c, fIx c s W W' h2 hr, bkR _ _ W W' h3 hr⟩) ?_ ⟨hI1, hBk1⟩).mono ?_
  · rintro pre x W ⟨hi, hb⟩ hlen
    have hlt : K + 1 < W.heap.size := (Array.getElem?_eq_some_iff.1 hb.1).1
    have hy := run_yield (P := P) (args := encs x) hb.1 (by rw [hrec]; exact hps x)
    rw [hrec] at hy
    refine ⟨fn, _, assign, body, hy, roundIn_of_wpIn hfn (hassign _ pre x W _ (by omega) hlt hi hlen fun a1 Wa hka hpa hxa => ?_)⟩
    have hba : Bk .ready none Wa := ⟨hka.same _ _ (by omega) hb.1 rfl, hka.same _ _ (by omega) hb.2 rfl⟩
    have hbr := run_beginRound (P := P) hba.1 (hst _ _)
    rw [show ({ rec .ready none with state := .busy } : Loop) = rec .busy none by rw [hrec]] at hbr
    refine ⟨_, hbr, ?_⟩
    have hb2 := bkPut _ _ .busy none Wa hba
    have hw2 : Kp W (Wa.putObj (K + 1) (.loop (rec .busy none))) := hKt hpa (hKb _ _ _ _ (by omega) hba.1 rfl rfl)
    refine wpIn_mono (hbody _ pre x a1 _ (by omega) (Array.getElem?_eq_some_iff.1 hb2.1).1 ((hAx x a1).putObj _ hxa (by omega) hba.1 rfl) hlen) ?_
    have fin : ∀ (W3 : World), KeepsFrom w.heap.size (Wa.putObj (K + 1) (.loop (rec .busy none))) W3 → Bk .busy none W3 := fun W3 hk3 =>
      ⟨hk3.same _ _ (by omega) hb2.1 rfl, hk3.same _ _ (by omega) hb2.2 rfl⟩
    rintro e a3 W3 hp
    cases e with
    | normal =>
      obtain ⟨hk3, hkp3, hi3⟩ := hp
      have hb3 := fin W3 hk3
      exact ⟨_, _, loop_roundR hup none hb3.1, .inl ⟨rfl, ⟨hI.putObj _ hi3 (by omega) hb3.1 rfl, bkPut _ _ _ _ _ hb3⟩, hKt (hKt hw2 hkp3) (hKb _ _ _ _ (by omega) hb3.1 rfl rfl)⟩⟩
    | ret =>
      obtain ⟨hk3, hi3⟩ := hp
      have hb3 := fin W3 hk3
      exact ⟨_, _, loop_roundR hup (some .ret) hb3.1, .inr ⟨rfl, .ret, (hIx _).putObj _ hi3 (by omega) hb3.1 rfl, bkPut _ _ _ _ _ hb3⟩⟩
    | exit id =>
      obtain ⟨hk3, hi3⟩ := hp
      have hb3 := fin W3 hk3
      exact ⟨_, _, loop_roundR hup (some (.exit id)) hb3.1, .inr ⟨rfl, .exit id, (hIx _).putObj _ hi3 (by omega) hb3.1 rfl, bkPut _ _ _ _ _ hb3⟩⟩
    | goto t =>
      obtain ⟨hk3, hi3⟩ := hp
      have hb3 := fin W3 hk3
      exact ⟨_, _, loop_roundR hup (some (.goto t)) hb3.1, .inr ⟨rfl, .goto t, (hIx _).putObj _ hi3 (by omega) hb3.1 rfl, bkPut _ _ _ _ _ hb3⟩⟩
    | panic ch => exact hp.elim
    | outgrown => exact hp.elim
  · have hend : ∀ s p W2, Bk s p W2 → s ≠ .busy → (Instr.endLoop (K + 1)).run P W2 = .ok p (W2.putObj (K + 1) (.loop (rec .exhausted p))) := fun s p W2 hb hs => by
      have := run_endLoop (P := P) hb.1 (by rw [hst]; exact hs)
      rw [this, hrec]
    rintro e W2 ⟨⟨v, rfl⟩, (⟨xs, hS, ⟨hi, hb⟩, hTx⟩ | ⟨pre, hSp, c, hi, hb⟩)⟩
    · exact ⟨none, _, hend _ _ _ hb (by simp), hdone _ xs _ (by omega) hS (hI.putObj _ hi (by omega) hb.1 rfl) (hT.putObj _ hTx (by omega) hb.1 rfl) ((World.putObj_heap_other (by omega)).trans hb.2)⟩
    · exact ⟨some c, _, hend _ _ _ hb (by simp), hstop _ c pre _ (by omega) hSp ((hIx c).putObj _ hi (by omega) hb.1 rfl) ((World.putObj_heap_other (by omega)).trans hb.2)⟩

/-- the same, the activation behind the assign code being known but for the block -/
theorem range_relM {P : Program} {n : Nat} {α : Type} {g : Operand} {ps : Array Tmp} {assign body : Code} {Q : Exit → Act → World → Prop} {a : Act} {w : World}
    (h1 : 1 ≤ n) {gf : Nat} {lb : Array Value} (hg : a.eval g = .func (.func gf) #[] lb) (eg : ∀ args w, (callFunc gf args).run P w = .ok (.enter gf args) w)
    {encs : α → Array Value} {R : World → World → Prop} (hR : ∀ W W', R W W' → ∀ b, w.heap.size ≤ b → b < W.heap.size → W'.heap[b]? = W.heap[b]?) {Kp : World → World → Prop} {S Sp : List α → Prop} {T : List α → World → Prop} {N : Nat} (hseq : SeqRel (n - 1) P gf lb encs R Kp S Sp T N w) (hT : OwnFrom w.heap.size T)
    (hKt : ∀ {A B C : World}, Kp A B → Kp B C → Kp A C) (hKb : ∀ (W : World) (l : Nat) (o o' : Obj), w.heap.size ≤ l → W.heap[l]? = some o → o.isCells = false → o.isWalk = false → Kp W (W.putObj l o')) (hps : ∀ x, (encs x).size = ps.size)
    (I : List α → World → Prop) (Ix : Code → List α → World → Prop) (hI : OwnFrom w.heap.size I) (hIx : ∀ c, OwnFrom w.heap.size (Ix c)) (fI : RFree R I) (fIx : ∀ c, RFree R (Ix c)) (h0 : I [] w) (mk : Nat → α → Act) (Ax : Nat → α → List α → World → Prop) (hAx : ∀ X x, OwnFrom w.heap.size (Ax X x))
    (hassign : ∀ (l : Nat) (pre : List α) (x : α) (W : World) (K : Act → World → Prop), w.heap.size ≤ l → l < W.heap.size → I pre W → pre.length < N → (∀ X W', KeepsFrom w.heap.size W W' → Kp W W' → Ax X x pre W' → K (mk X x) W') →
      assign.wpIn (Fence.wide.inRound l) (n - 1 - 1) P (Exit.then K (fun _ _ _ => False)) { tmps := (ps.zip (encs x)).foldl (fun t (p, v) => t.setIfInBounds p v) a.tmps, defers := [] } W)
    (hbody : ∀ (l : Nat) (pre : List α) (x : α) (X : Nat) (W : World), w.heap.size ≤ l → l < W.heap.size → Ax X x pre W → pre.length < N → body.wpIn (Fence.wide.inRound l) (n - 1 - 1) P (ownPostG w.heap.size Kp I Ix (pre ++ [x]) W) (mk X x) W)
    (hdone : ∀ (D : Nat) (xs : List α) (W : World), w.heap.size ≤ D → S xs → I xs W → T xs W → W.heap[D]? = some (.deferred (some [])) → Q .normal { a with defers := { target := .collected D, args := #[] } :: a.defers } W)
    (hstop : ∀ (D : Nat) (c : Code) (pre : List α) (W : World), w.heap.size ≤ D → Sp pre → Ix c pre W → W.heap[D]? = some (.deferred (some [])) → c.wpIn Fence.wide n P Q { a with defers := { target := .collected D, args := #[] } :: a.defers } W) :
    (Code.rangeFunc g ps assign body).wpIn Fence.wide n P Q a w :=
  range_relA h1 hg eg hR hseq hT hKt hKb hps I Ix hI hIx fI fIx h0 (fun pre x a W => ∃ X, a = mk X x ∧ Ax X x pre W)
    (fun x _ pre W W' row h hg hr => by obtain ⟨X, h1, h2⟩ := h; exact ⟨X, h1, hAx X x pre W W' row h2 hg hr⟩)
    (fun l pre x W K h1 h2 h3 h4 h5 => hassign l pre x W K h1 h2 h3 h4 fun X W' h6 h7 h8 => h5 _ W' h6 h7 ⟨X, rfl, h8⟩)
    (fun l pre x a₁ W h1 h2 h3 h4 => by obtain ⟨X, rfl, h5⟩ := h3; exact hbody l pre x X W h1 h2 h5 h4) hdone hstop

end Go.Proofs.YtaaplalfggofiaaGreatDoor
