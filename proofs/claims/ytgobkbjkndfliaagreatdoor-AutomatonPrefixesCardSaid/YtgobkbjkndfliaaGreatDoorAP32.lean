/-
  Several texts in one: MapB, But, QcF, QSigW. Each says at its head what it holds.
-/
import Derived.Test.YtgobkbjkndfliaaGreatDoorAP3
import Derived.Maps.Own
import Derived.Maps.OwnSet
import Derived.Maps.Views
import Derived.Carry
import Derived.Test.YtgobkbjkndfliaaGreatDoorAP2
import Derived.IntWalk
import Derived.Test.YtgobkbjkndfliaaGreatDoorAP4
import Derived.Maps.AppendAt
import Derived.Maps.OwnIn

/-
  Maps from int to bool that the call has made, as sets of ints.
-/
namespace Go.Proofs.YtgobkbjkndfliaaGreatDoor
open Go.RowKit

theorem i64_wfB {i : Int} (h : I64 i) : (Lit.int .i64 i).wf = true := by
  unfold I64 at h
  simp [Lit.wf, IntKind.min, IntKind.max, IntKind.bits, IntKind.signed]
  omega
theorem intKeyB : Maps.Keyed Tryz.prog 3 := Maps.int_keyed Tryz.underlying3
theorem keyOf_B {i : Int} (h : I64 i) : keyOf Tryz.prog 3 (.int .i64 i) = some (.int .i64 i) := Maps.keyOf_int_mk Tryz.underlying3 (i64_wfB h)
def SetD (D : DataW Unit) (m : Int → Prop) : Prop := ∀ i, I64 i → (¬ m i → Maps.has D (.int .i64 i) = false) ∧ (m i → Maps.has D (.int .i64 i) = true)
/-- block B is a map of n entries at most, whose keys are those of m -/
def MapB (w : World) (B n : Nat) (m : Int → Prop) : Prop :=
  ∃ D : DataW Unit, w.ownsMap Tryz.prog 3 (plainElem Tryz.prog 4) B n D ∧ SetD D m
theorem MapB.made (w : World) : MapB (w.alloc (.map #[] 0)) w.heap.size 0 (fun _ => False) :=
  ⟨.map [], World.ownsMap_made _ _ _ _, fun _ _ => ⟨fun _ => rfl, fun h => h.elim⟩⟩
section
variable {w w' : World} {B n : Nat} {m m' : Int → Prop}
theorem MapB.block (h : MapB w B n m) (hb : w'.heap[B]? = w.heap[B]?) : MapB w' B n m := by
  obtain ⟨D, ⟨es, clock, h1, h3⟩, h2⟩ := h
  exact ⟨D, ⟨es, clock, hb.trans h1, h3⟩, h2⟩
theorem MapB.lt (h : MapB w B n m) : B < w.heap.size := by
  obtain ⟨D, h1, _⟩ := h
  exact h1.lt
theorem MapB.congr (h : MapB w B n m) (hm : ∀ i, m i ↔ m' i) : MapB w B n m' := by
  obtain ⟨D, h1, h2⟩ := h
  exact ⟨D, h1, fun i hi => by rw [← hm]; exact h2 i hi⟩
theorem MapB.obj (h : MapB w B n m) : ∃ es clock, w.heap[B]? = some (.map es clock) := by
  obtain ⟨D, ⟨es, clock, h1, _⟩, _⟩ := h
  exact ⟨es, clock, h1⟩
/-- 'm[k] = true', behind the store by the library's law -/
theorem MapB.put {D : DataW Unit} {s : Int} (hs : I64 s) (h3 : w'.ownsMap Tryz.prog 3 (plainElem Tryz.prog 4) B (n + 1) (D.put (.int .i64 s) (.lit (.bool true)))) (h1 : w.ownsMap Tryz.prog 3 (plainElem Tryz.prog 4) B n D)
    (h2 : SetD D m) : MapB w' B (n + 1) (fun i => m i ∨ i = s) := by
  refine ⟨_, h3, fun i hi => ?_⟩
  have hM := h1.isMap
  by_cases e : i = s
  · subst e
    exact ⟨fun h => absurd (.inr rfl) h, fun _ => Maps.has_put_same hM (by trivial) _⟩
  · have hne : (Lit.int .i64 i) ≠ .int .i64 s := fun h => e (by injection h)
    obtain ⟨h5, h6⟩ := h2 i hi
    exact ⟨fun h => by rw [Maps.has_put_other hne]; exact h5 fun h' => h (.inl h'), fun h => by rw [Maps.has_put_other hne]; exact h6 (h.resolve_right e)⟩
end

end Go.Proofs.YtgobkbjkndfliaaGreatDoor

/-
  Memory that has only grown, but for one block.
-/
namespace Go.Proofs.YtgobkbjkndfliaaGreatDoor
open Go.RowKit

/-- as Below, but for one block -/
structure But (n : Nat) (x : Option Nat) (w w' : World) : Prop where
  os : w'.os = w.os
  tape : w'.tape = w.tape
  output : w'.output = w.output
  size : w.heap.size ≤ w'.heap.size
  block : ∀ b, b < n → some b ≠ x → w'.heap[b]? = w.heap[b]?
theorem But.refl (n : Nat) (x : Option Nat) (w : World) : But n x w w := ⟨rfl, rfl, rfl, Nat.le_refl _, fun _ _ _ => rfl⟩
theorem But.trans {n : Nat} {x : Option Nat} {a b c : World} (h : But n x a b) (k : But n x b c) : But n x a c := ⟨k.os.trans h.os, k.tape.trans h.tape, k.output.trans h.output, Nat.le_trans h.size k.size, fun i hi hx => (k.block i hi hx).trans (h.block i hi hx)⟩
theorem But.mono {n m : Nat} {x : Option Nat} {a b : World} (h : But n x a b) (hm : m ≤ n) : But m x a b := ⟨h.os, h.tape, h.output, h.size, fun i hi hx => h.block i (by omega) hx⟩
theorem But.of {n : Nat} {x : Option Nat} {a b : World} (h : Below n a b) : But n x a b := ⟨h.os, h.tape, h.output, h.size, fun i hi _ => h.block i hi⟩
theorem But.below {n m : Nat} {a b : World} {x : Option Nat} (h : But n x a b) (hm : m ≤ n) (hx : ∀ k, x = some k → m ≤ k) : Below m a b := ⟨h.os, h.tape, h.output, h.size, fun i hi => h.block i (by omega) fun e => by have := hx i e.symm; omega⟩

end Go.Proofs.YtgobkbjkndfliaaGreatDoor

/-
  The plain functions of package qcheck on resolved trees: duration, horizon, steps, signals. No program in sight.
-/
namespace Go.Proofs.YtgobkbjkndfliaaGreatDoor
open Go.RowKit

/-- the duration of a pattern -/
def durB (n : Nd) (l : List Int) : Int :=
  if n.kind = 45 then (match l with | x :: y :: _ => wrap64 (wrap64 (x + y) + n.b) | _ => 0)
  else if n.kind = 46 then (match l with | x :: y :: _ => max x y | _ => 0)
  else if n.kind = 47 then (match l with | x :: _ => if 0 < n.b then wrap64 (wrap64 (n.b * x) + wrap64 (wrap64 (n.b - 1) * n.d)) else 0 | _ => 0)
  else 0
def durF (n : Nd) : Int := n.fold durB
theorem durF_eq (n : Nd) : durF n = durB n (n.kids.map durF) := Nd.fold_eq _ n

/-- past, future, and the greatest future inside of a pattern -/
structure Hz where
  past : Int
  fut : Int
  ins : Int
def maxF (l : List Int) : Int := l.foldl max 0
def hzB (n : Nd) (l : List Hz) : Hz :=
  let p := maxF (l.map Hz.past)
  let f := maxF (l.map Hz.fut)
  let i := maxF (l.map Hz.ins)
  if n.kind = 31 ∨ n.kind = 32 ∨ n.kind = 35 then ⟨wrap64 (p + n.b), f, f⟩
  else if n.kind = 33 ∨ n.kind = 34 ∨ n.kind = 36 then ⟨p, wrap64 (f + n.b), wrap64 (f + n.b)⟩
  else if (37 ≤ n.kind ∧ n.kind ≤ 41) ∨ n.kind = 43 then ⟨wrap64 (p + 1), f, f⟩
  else if 45 ≤ n.kind ∧ n.kind ≤ 47 then ⟨p, wrap64 (durF n + i), i⟩
  else ⟨p, f, f⟩
def hzF (n : Nd) : Hz := n.fold hzB
theorem hzF_eq (n : Nd) : hzF n = hzB n (n.kids.map hzF) := Nd.fold_eq _ n
theorem maxF_snoc (l : List Int) (x : Int) : maxF (l ++ [x]) = max (maxF l) x := by
  unfold maxF; rw [List.foldl_append]; rfl

/-- the number of steps -/
def stepB (n : Nd) (l : List Int) : Int :=
  if n.kind = 45 ∨ n.kind = 46 then (match l with | x :: y :: _ => min (x + y) 1000000 | _ => 1)
  else if n.kind = 47 then (match l with | x :: _ => min (min (max n.b 0) 1000000 * x) 1000000 | _ => 1)
  else 1
def stepF (n : Nd) : Int := n.fold stepB
theorem stepF_eq (n : Nd) : stepF n = stepB n (n.kids.map stepF) := Nd.fold_eq _ n
theorem stepF_bound (n : Nd) : 0 ≤ stepF n ∧ stepF n ≤ 1000000 := by
  induction n using Nd.ind with
  | h n ih =>
  rw [stepF_eq]
  have key : ∀ x ∈ n.kids.map stepF, 0 ≤ x ∧ x ≤ 1000000 := fun x hx => by
    obtain ⟨k, hk, rfl⟩ := List.mem_map.1 hx
    exact ih k hk
  unfold stepB
  split
  · split
    · rename_i x y l e
      rw [e] at key
      have h1 := key x (by simp)
      have h2 := key y (by simp)
      omega
    · omega
  · split
    · split
      · rename_i x l e
        rw [e] at key
        have h1 := key x (by simp)
        have h2 : 0 ≤ min (max n.b 0) 1000000 := by omega
        have h3 := Int.mul_nonneg h2 h1.1
        omega
      · omega
    · omega

/-- the signals of a tree, in the order of the walk -/
def sigB (n : Nd) (l : List (List Int)) : List Int := (if n.kind = 1 then [n.a] else []) ++ l.flatten
def sigF (n : Nd) : List Int := n.fold sigB
theorem sigF_eq (n : Nd) : sigF n = sigB n (n.kids.map sigF) := Nd.fold_eq _ n

end Go.Proofs.YtgobkbjkndfliaaGreatDoor

/-
  The closure of qcheck.Signals: it gathers the signals of a tree.
-/
namespace Go.Proofs.YtgobkbjkndfliaaGreatDoor
open Go.RowKit

/-- all numbers of a tree are ints -/
def okB (n : Nd) (l : List Prop) : Prop := (I64 n.kind ∧ I64 n.a ∧ I64 n.b ∧ I64 n.c ∧ I64 n.d) ∧ ∀ p ∈ l, p
def okF (n : Nd) : Prop := n.fold okB
theorem okF_eq (n : Nd) : okF n ↔ (I64 n.kind ∧ I64 n.a ∧ I64 n.b ∧ I64 n.c ∧ I64 n.d) ∧ ∀ k ∈ n.kids, okF k := by
  unfold okF
  rw [Nd.fold_eq]
  exact and_congr_right fun _ => ⟨fun h k hk => h _ (List.mem_map.2 ⟨k, hk, rfl⟩), fun h p hp => by
    obtain ⟨k, hk, rfl⟩ := List.mem_map.1 hp
    exact h k hk⟩

theorem sigF_mk (kind at_ : Int) (name value : ByteArray) (a b c d : Int) (KA : Option Addr) (kc : Nat) (kids : List Nd) : sigF (.mk kind at_ name value a b c d KA kc kids) = (if kind = 1 then [a] else []) ++ (kids.map sigF).flatten := sigF_eq _
/-- the boxes of Signals: the map, its variable, the closure's variable; trees lie below block N -/
structure SigSt (w : World) (N B Bm Bw k : Nat) (m : Int → Prop) : Prop where
  map : MapB w B k m
  vm : w.heap[Bm]? = some (.cells #[.map (some B)] 170 (0, 0))
  vw : w.heap[Bw]? = some (.cells #[.func (.func 120) #[] #[.pointer (some ⟨Bm, 0, none⟩), .pointer (some ⟨Bw, 0, none⟩)]] 171 (0, 0))
  nB : N ≤ B
  nm : N ≤ Bm
  nw : N ≤ Bw
section
variable {w w' : World} {N B Bm Bw k : Nat} {m m' : Int → Prop}
theorem SigSt.ne (h : SigSt w N B Bm Bw k m) : B ≠ Bm ∧ B ≠ Bw := by
  obtain ⟨es, clock, h1⟩ := h.map.obj
  refine ⟨fun e => ?_, fun e => ?_⟩
  · subst e; rw [h.vm] at h1; cases h1
  · subst e; rw [h.vw] at h1; cases h1
theorem SigSt.below (h : SigSt w N B Bm Bw k m) (hb : Below w.heap.size w w') : SigSt w' N B Bm Bw k m :=
  ⟨h.map.block (hb.block _ h.map.lt), box_below hb h.vm, box_below hb h.vw, h.nB, h.nm, h.nw⟩
theorem SigSt.put (h : SigSt w N B Bm Bw k m) (hm : MapB w' B (k + 1) m') (hg : w.grownBy w' (some B)) : SigSt w' N B Bm Bw (k + 1) m' :=
  ⟨hm, box_grown h.vm hg (fun e => by injection e with e; exact h.ne.1 e), box_grown h.vw hg (fun e => by injection e with e; exact h.ne.2 e), h.nB, h.nm, h.nw⟩
theorem SigSt.congr (h : SigSt w N B Bm Bw k m) (hm : ∀ i, m i ↔ m' i) : SigSt w N B Bm Bw k m' := ⟨h.map.congr hm, h.vm, h.vw, h.nB, h.nm, h.nw⟩
end
def SigPost (N B Bm Bw k : Nat) (m : Int → Prop) (w : World) (e : Ending) (w' : World) : Prop := e = .returned (.tuple #[]) ∧ SigSt w' N B Bm Bw k m ∧ But w.heap.size (some B) w w'
def SigRel (kids : List Nd) (N B Bm Bw k0 : Nat) (m0 : Int → Prop) (W : World) (i : Value) (wr : World) : Prop :=
  ∃ j : Nat, j ≤ kids.length ∧ i = .int .i64 (j : Int) ∧ SigSt wr N B Bm Bw (k0 + ((kids.take j).map sigF).flatten.length) (fun x => m0 x ∨ x ∈ ((kids.take j).map sigF).flatten) ∧ But W.heap.size (some B) W wr
theorem sig_next {kids : List Nd} {j : Nat} (hj : j < kids.length) : ((kids.take (j + 1)).map sigF).flatten = ((kids.take j).map sigF).flatten ++ sigF kids[j] := by
  rw [List.take_succ_eq_append_getElem hj, List.map_append, List.flatten_append]; simp
theorem sig_len {kids : List Nd} {j : Nat} (hj : j < kids.length) : ((kids.take j).map sigF).flatten.length + (sigF kids[j]).length ≤ (kids.map sigF).flatten.length := by
  have h : kids.map sigF = (kids.take (j + 1)).map sigF ++ (kids.drop (j + 1)).map sigF := by rw [← List.map_append, List.take_append_drop]
  rw [h, List.flatten_append, List.length_append, sig_next hj, List.length_append]
  omega

set_option maxRecDepth 100000 in
set_option maxHeartbeats 4000000 in
theorem sigw_any (N B Bm Bw : Nat) (n : Nd) : ∀ (w : World) (k : Nat) (m : Int → Prop), SigSt w N B Bm Bw k m → TreesAt w (Lo N) n.KA n.kids → okF n → k + (sigF n).length ≤ 1000000 →
    Calls Tryz.prog 120 #[.agg (cNd n).toArray, .pointer (some ⟨Bm, 0, none⟩), .pointer (some ⟨Bw, 0, none⟩)] w (SigPost N B Bm Bw (k + (sigF n).length) (fun x => m x ∨ x ∈ sigF n) w) := by
  induction n using Nd.ind with
  | h n ih =>
  intro w k m hst ht hok hle
  have IH := hide ih
  have HOK := hide ((okF_eq n).1 hok)
  clear ih hok
  obtain ⟨kind, at_, name, value, a, b, c, d, KA, kc, kids⟩ := n
  unfold Nd.KA Nd.kids at ht
  unfold cNd
  dsimp only [Nd.kind, Nd.a, Nd.b, Nd.c, Nd.d, Nd.kids] at HOK
  have hsf := sigF_mk kind at_ name value a b c d KA kc kids
  have hl := ht.len
  obtain ⟨W0, hW0⟩ : ∃ W0, w.alloc (.cells #[.int .i64 kind, .int .i64 at_, .string name, .string value, .int .i64 a, .int .i64 b, .int .i64 c, .int .i64 d, .slice KA kids.length kc] 24) = W0 := ⟨_, rfl⟩
  have g0 := new_at hW0
  have hb0 : Below w.heap.size w W0 := by rw [← hW0]; exact (Below.refl _ _).alloc (Nat.le_refl _) _
  have hst0 := hst.below hb0
  have hNw : N ≤ w.heap.size := Nat.le_trans hst.nB (Nat.le_of_lt hst.map.lt)
  have hNB : w.heap.size ≠ B := fun e => by have := hst.map.lt; omega
  have HT := hide (ht.stay (stay_below hb0 fun b hb => Nat.lt_of_lt_of_le hb hNw))
  have HG0 := hide g0
  have HB0 := hide hb0
  have HW0 := hide hW0
  obtain ⟨y0, y1, y2, y3, y4, y5, y6, y7, y8⟩ := box9 g0
  clear ht g0 hb0 hW0 hst
  go_enter Tryz.func120, Tryz.ntmps120
  go_upto_region 1 with (fail)
  rw [HW0.out]
  have HST0 := hide hst0
  clear hst0
  have HNE := hide (And.intro hNw hNB)
  go_upto_if 8 with (fail)
  go_cut [8] (fun _ wx => SigSt wx N B Bm Bw (k + (if kind = 1 then [a] else []).length) (fun x => m x ∨ x ∈ (if kind = 1 then [a] else [])) ∧ But W0.heap.size (some B) W0 wx)
  case first =>
    by_cases k1 : kind = 1
    · have T1 : (kind == 1) = true := beq_iff_eq.2 k1
      have vm := HST0.out.vm
      obtain ⟨D, hD, hset⟩ := HST0.out.map
      have cm : W0.cell? ⟨Bm, 0, none⟩ = some (.map (some B)) := by rw [cell_of_row W0 Bm 0 _ _ (0, 0) vm]; rfl
      have HD := hide hD
      have HSET := hide hset
      have HKEY := hide (keyOf_B HOK.out.1.2.1)
      have HVAL := hide (plainElem_bool (H := Unit) Tryz.underlying4 true)
      have hkn : k < maxLen := by unfold maxLen; omega
      have HK1 := hide k1
      clear vm hset k1
      go_wp2_with (at_mapUpdate; (refine wpList_mapUpdate_own _ rfl _ _ _ 170 rfl 3 4 intKeyB Tryz.underlying170 _ B k D rfl hD hkn _ _ (.int .i64 a) rfl rfl HKEY.out (.lit (.bool true)) [] HVAL.out ?_); intro V hm3 hg3)
      go_meet
      have hp := MapB.put HOK.out.1.2.1 hm3 HD.out HSET.out
      refine ⟨?_, ⟨hg3.os, hg3.tape, hg3.output, hg3.size, fun b' hb' hne => hg3.block b' hb' hne⟩⟩
      rw [if_pos HK1.out]
      exact (HST0.out.put hp hg3).congr fun x => by simp
    · have T1 : (kind == 1) = false := beq_eq_false_iff_ne.2 k1
      have HK1 := hide k1
      clear k1
      go_wp2_with fail
      go_meet
      rw [if_neg HK1.out]
      exact ⟨HST0.out.congr fun x => by simp, But.refl _ _ _⟩
  case rest =>
    obtain ⟨hst1, hbc⟩ := hcut
    have HST1 := hide hst1
    have HBC := hide hbc
    clear hst1 hbc y0 y1 y2 y3 y4 y5 y6 y7 y8
    have HT1 := hide (HT.out.stay (w' := wc) (fun b hb => HBC.out.block b (by have := HB0.out.size; have := HNE.out.1; unfold Lo at hb; omega) (fun e => by injection e with e; have := HST0.out.nB; unfold Lo at hb; omega)))
    obtain ⟨y0, y1, y2, y3, y4, y5, y6, y7, y8⟩ := box9 ((HBC.out.block _ (box_lt HG0.out) (fun e => by injection e with e; exact HNE.out.2 e)).trans HG0.out)
    have HSF := hide hsf
    clear hsf
    generalize wc = V at *
    go_wp2_with fail
    go_loopw [15] (fun i wr => SigRel kids N B Bm Bw (k + (if kind = 1 then [a] else []).length) (fun x => m x ∨ x ∈ (if kind = 1 then [a] else [])) V i wr) (fun i _ => kids.length - (intOf i).toNat)
    case atStart => exact ⟨0, Nat.zero_le _, rfl, by simpa using HST1.out, But.refl _ _ _⟩
    case round =>
      obtain ⟨wr1, rfl⟩ : ∃ w2 : World, w2 = wr := ⟨_, rfl⟩
      obtain ⟨j, hj, rfl, hst, hbr⟩ := hrel
      clear y0 y1 y2 y3 y4 y5 y6 y7 y8
      have HST := hide hst
      have HBR := hide hbr
      clear hst hbr
      by_cases hlt : j < kids.length
      · have hT : TreesAt wr1 (Lo N) KA kids := HT1.out.stay (fun b hb => HBR.out.block b (by have := HST1.out.map.lt; have := HST1.out.nB; unfold Lo at hb; omega) (fun e => by injection e with e; have := HST1.out.nB; unfold Lo at hb; omega))
        obtain ⟨bk, ok, rfl, hbk, hc⟩ := hT.row.at_ hlt
        have hkid := hT.each _ (List.getElem_mem hlt)
        have hmem := List.getElem_mem hlt
        have HNX := hide (sig_next hlt)
        have HLN := hide (sig_len hlt)
        have hokk := HOK.out.2 _ hmem
        generalize kids[j] = q at *
        have hz : wr1.heap.size ≠ B := fun e => by have := HST.out.map.lt; omega
        obtain ⟨W1, hW1⟩ : ∃ W1, wr1.alloc (.cells (cNd q).toArray 24) = W1 := ⟨_, rfl⟩
        have g1 := new_at hW1
        have hb1 : Below wr1.heap.size wr1 W1 := by rw [← hW1]; exact (Below.refl _ _).alloc (Nat.le_refl _) _
        have hNw1 : N ≤ wr1.heap.size := Nat.le_trans HST.out.nB (Nat.le_of_lt HST.out.map.lt)
        have hcall := IH.out q hmem W1 _ _ (HST.out.below hb1) (hkid.stay (stay_below hb1 fun b hb => Nat.lt_of_lt_of_le hb hNw1)) hokk (by have := HLN.out; have := hle; rw [HSF.out, List.length_append] at this; omega)
        obtain ⟨m1, m2, m3, m4, m5, m6, m7, m8, mK, mc, ml⟩ := q
        unfold cNd at hc hcall hW1 g1
        obtain ⟨c0, c1, c2, c3, c4, c5, c6, c7, c8⟩ := nine hc
        have cw : W1.cell? ⟨Bw, 0, none⟩ = some (.func (.func 120) #[] #[.pointer (some ⟨Bm, 0, none⟩), .pointer (some ⟨Bw, 0, none⟩)]) := by rw [cell_of_row W1 Bw 0 _ _ (0, 0) (HST.out.below hb1).vw]; rfl
        have HCALL := hide hcall
        have HW1 := hide hW1
        have HB1 := hide hb1
        clear hc hkid hokk hcall hW1 hb1 hmem hT
        go_upto_region 6 with (fail)
        rw [HW1.out]
        clear HW1 c0 c1 c2 c3 c4 c5 c6 c7 c8
        obtain ⟨x0, x1, x2, x3, x4, x5, x6, x7, x8⟩ := box9 g1
        clear g1
        go_wp2_with (go_at_call 120; refine HCALL.out.mono ?_; rintro e w2 ⟨rfl, hs2, hb2⟩; have HS2 := hide hs2; have HB2 := hide hb2; clear hs2 hb2)
        refine ⟨⟨j + 1, hlt, by go_num, ?_, ?_⟩, by simp [intOf]; omega⟩
        · have h := HS2.out
          rw [HNX.out, List.length_append, ← Nat.add_assoc]
          exact h.congr fun x => by rw [List.mem_append, or_assoc]
        · exact HBR.out.trans (((But.of HB1.out).mono HBR.out.size).trans (HB2.out.mono (Nat.le_trans HBR.out.size HB1.out.size)))
      · have hke : j = kids.length := by omega
        have HE := hide (show SigPost N B Bm Bw (k + (sigF (.mk kind at_ name value a b c d KA kc kids)).length) (fun x => m x ∨ x ∈ sigF (.mk kind at_ name value a b c d KA kc kids)) w (.returned (.tuple #[])) wr1 from by
          have h := HST.out
          rw [hke, List.take_length] at h
          refine ⟨rfl, ?_, ?_⟩
          · rw [HSF.out, List.length_append, ← Nat.add_assoc]
            exact h.congr fun x => by rw [List.mem_append, or_assoc]
          · exact (But.of HB0.out).trans ((HBC.out.mono HB0.out.size).trans (HBR.out.mono (Nat.le_trans HB0.out.size HBC.out.size))))
        clear hke HSF
        go_wp2_with fail
        go_end0
        exact HE.out

end Go.Proofs.YtgobkbjkndfliaaGreatDoor
