/-
  Several texts in one: QSigW, CVal, Ints, Two, Meth47, COf, Cmp51, RelC, DecC, DecP, CmpAll, TruP. Each says at its head what it holds.
-/
import Derived.Test.YtbhcmnfeeogdhaaGreatDoorEK2
import Derived.Test.YtbhcmnfeeogdhaaGreatDoorEK3
import Derived.Test.YtbhcmnfeeogdhaaGreatDoorEK6
import Derived.Maps.AppendAt
import Derived.Maps.OwnIn
import Derived.Test.YtbhcmnfeeogdhaaGreatDoorEK5
import Derived.Lib.SlicesCompact
import Derived.Lib.OwnBridge
import Derived.Test.YtbhcmnfeeogdhaaGreatDoorShelf
import Derived.Deep.DeepCutAuto
import Derived.Deep.CutBlock
import Derived.Deep.RegionHeld3
import Derived.Test.YtbhcmnfeeogdhaaGreatDoorEK4
import Derived.Outline
import Derived.Lib.UnsafeStr
import Derived.Lib.Bytealg
import Derived.IntWalk

/-
  The closure of qcheck.Signals: it gathers the signals of a tree.
-/
namespace Go.Proofs.YtbhcmnfeeogdhaaGreatDoor
open Go.RowKit

/-- all numbers of a tree are ints -/
def okB (n : Nd) (l : List Prop) : Prop := (I64 n.kind ∧ I64 n.a ∧ I64 n.b ∧ I64 n.c ∧ I64 n.d) ∧ ∀ p ∈ l, p
def okF (n : Nd) : Prop := n.fold okB
theorem okF_eq (n : Nd) : okF n ↔ (I64 n.kind ∧ I64 n.a ∧ I64 n.b ∧ I64 n.c ∧ I64 n.d) ∧ ∀ k ∈ n.kids, okF k := by
  unfold okF
  rw [Nd.fold_eq]
  exact and_congr_right fun _ => ⟨fun h k hk => h _ (List.mem_map.2 ⟨k, hk, rfl⟩), fun h p hp => by
    obtain ⟨k, hk, rfl⟩ := List.mem_map.1 hp
    exact h k hk⟩

theorem sigF_mk (kind at_ : Int) (name value : ByteArray) (a b c d : Int) (KA : Option Addr) (kc : Nat) (kids : List Nd) : sigF (.mk kind at_ name value a b c d KA kc kids) = (if kind = 1 then [a] else []) ++ (kids.map sigF).flatten := sigF_eq _
/-- the boxes of Signals: the map, its variable, the closure's variable; trees lie below block N -/
structure SigSt (w : World) (N B Bm Bw k : Nat) (m : Int → Prop) : Prop where
  map : MapB w B k m
  vm : w.heap[Bm]? = some (.cells #[.map (some B)] 150 (0, 0))
  vw : w.heap[Bw]? = some (.cells #[.func (.func 98) #[] #[.pointer (some ⟨Bm, 0, none⟩), .pointer (some ⟨Bw, 0, none⟩)]] 151 (0, 0))
  nB : N ≤ B
  nm : N ≤ Bm
  nw : N ≤ Bw
section
variable {w w' : World} {N B Bm Bw k : Nat} {m m' : Int → Prop}
theorem SigSt.ne (h : SigSt w N B Bm Bw k m) : B ≠ Bm ∧ B ≠ Bw := by
  obtain ⟨es, clock, h1⟩ := h.map.obj
  refine ⟨fun e => ?_, fun e => ?_⟩
  · subst e; rw [h.vm] at h1; cases h1
  · subst e; rw [h.vw] at h1; cases h1
theorem SigSt.below (h : SigSt w N B Bm Bw k m) (hb : Below w.heap.size w w') : SigSt w' N B Bm Bw k m :=
  ⟨h.map.block (hb.block _ h.map.lt), box_below hb h.vm, box_below hb h.vw, h.nB, h.nm, h.nw⟩
theorem SigSt.put (h : SigSt w N B Bm Bw k m) (hm : MapB w' B (k + 1) m') (hg : w.grownBy w' (some B)) : SigSt w' N B Bm Bw (k + 1) m' :=
  ⟨hm, box_grown h.vm hg (fun e => by injection e with e; exact h.ne.1 e), box_grown h.vw hg (fun e => by injection e with e; exact h.ne.2 e), h.nB, h.nm, h.nw⟩
theorem SigSt.congr (h : SigSt w N B Bm Bw k m) (hm : ∀ i, m i ↔ m' i) : SigSt w N B Bm Bw k m' := ⟨h.map.congr hm, h.vm, h.vw, h.nB, h.nm, h.nw⟩
end
def SigPost (N B Bm Bw k : Nat) (m : Int → Prop) (w : World) (e : Ending) (w' : World) : Prop := e = .returned (.tuple #[]) ∧ SigSt w' N B Bm Bw k m ∧ But w.heap.size (some B) w w'
def SigRel (kids : List Nd) (N B Bm Bw k0 : Nat) (m0 : Int → Prop) (W : World) (i : Value) (wr : World) : Prop :=
  ∃ j : Nat, j ≤ kids.length ∧ i = .int .i64 (j : Int) ∧ SigSt wr N B Bm Bw (k0 + ((kids.take j).map sigF).flatten.length) (fun x => m0 x ∨ x ∈ ((kids.take j).map sigF).flatten) ∧ But W.heap.size (some B) W wr
theorem sig_next {kids : List Nd} {j : Nat} (hj : j < kids.length) : ((kids.take (j + 1)).map sigF).flatten = ((kids.take j).map sigF).flatten ++ sigF kids[j] := by
  rw [List.take_succ_eq_append_getElem hj, List.map_append, List.flatten_append]; simp
theorem sig_len {kids : List Nd} {j : Nat} (hj : j < kids.length) : ((kids.take j).map sigF).flatten.length + (sigF kids[j]).length ≤ (kids.map sigF).flatten.length := by
  have h : kids.map sigF = (kids.take (j + 1)).map sigF ++ (kids.drop (j + 1)).map sigF := by rw [← List.map_append, List.take_append_drop]
  rw [h, List.flatten_append, List.length_append, sig_next hj, List.length_append]
  omega

set_option maxRecDepth 100000 in
set_option maxHeartbeats 4000000 in
theorem sigw_any (N B Bm Bw : Nat) (n : Nd) : ∀ (w : World) (k : Nat) (m : Int → Prop), SigSt w N B Bm Bw k m → TreesAt w (Lo N) n.KA n.kids → okF n → k + (sigF n).length ≤ 1000000 →
    Calls Tryz.prog 98 #[.agg (cNd n).toArray, .pointer (some ⟨Bm, 0, none⟩), .pointer (some ⟨Bw, 0, none⟩)] w (SigPost N B Bm Bw (k + (sigF n).length) (fun x => m x ∨ x ∈ sigF n) w) := by
  induction n using Nd.ind with
  | h n ih =>
  intro w k m hst ht hok hle
  have IH := hide ih
  have HOK := hide ((okF_eq n).1 hok)
  clear ih hok
  obtain ⟨kind, at_, name, value, a, b, c, d, KA, kc, kids⟩ := n
  unfold Nd.KA Nd.kids at ht
  unfold cNd
  dsimp only [Nd.kind, Nd.a, Nd.b, Nd.c, Nd.d, Nd.kids] at HOK
  have hsf := sigF_mk kind at_ name value a b c d KA kc kids
  have hl := ht.len
  obtain ⟨W0, hW0⟩ : ∃ W0, w.alloc (.cells #[.int .i64 kind, .int .i64 at_, .string name, .string value, .int .i64 a, .int .i64 b, .int .i64 c, .int .i64 d, .slice KA kids.length kc] 30) = W0 := ⟨_, rfl⟩
  have g0 := new_at hW0
  have hb0 : Below w.heap.size w W0 := by rw [← hW0]; exact (Below.refl _ _).alloc (Nat.le_refl _) _
  have hst0 := hst.below hb0
  have hNw : N ≤ w.heap.size := Nat.le_trans hst.nB (Nat.le_of_lt hst.map.lt)
  have hNB : w.heap.size ≠ B := fun e => by have := hst.map.lt; omega
  have HT := hide (ht.stay (stay_below hb0 fun b hb => Nat.lt_of_lt_of_le hb hNw))
  have HG0 := hide g0
  have HB0 := hide hb0
  have HW0 := hide hW0
  obtain ⟨y0, y1, y2, y3, y4, y5, y6, y7, y8⟩ := box9 g0
  clear ht g0 hb0 hW0 hst
  go_enter Tryz.func98, Tryz.ntmps98
  go_upto_region 1 with (fail)
  rw [HW0.out]
  have HST0 := hide hst0
  clear hst0
  have HNE := hide (And.intro hNw hNB)
  go_upto_if 8 with (fail)
  go_cut [8] (fun _ wx => SigSt wx N B Bm Bw (k + (if kind = 1 then [a] else []).length) (fun x => m x ∨ x ∈ (if kind = 1 then [a] else [])) ∧ But W0.heap.size (some B) W0 wx)
  case first =>
    by_cases k1 : kind = 1
    · have T1 : (kind == 1) = true := beq_iff_eq.2 k1
      have vm := HST0.out.vm
      obtain ⟨D, hD, hset⟩ := HST0.out.map
      have cm : W0.cell? ⟨Bm, 0, none⟩ = some (.map (some B)) := by rw [cell_of_row W0 Bm 0 _ _ (0, 0) vm]; rfl
      have HD := hide hD
      have HSET := hide hset
      have HKEY := hide (keyOf_B HOK.out.1.2.1)
      have HVAL := hide (plainElem_bool (H := Unit) Tryz.underlying4 true)
      have hkn : k < maxLen := by unfold maxLen; omega
      have HK1 := hide k1
      clear vm hset k1
      go_wp2_with (at_mapUpdate; (refine wpList_mapUpdate_own _ rfl _ _ _ 150 rfl 3 4 intKeyB Tryz.underlying150 _ B k D rfl hD hkn _ _ (.int .i64 a) rfl rfl HKEY.out (.lit (.bool true)) [] HVAL.out ?_); intro V hm3 hg3)
      go_meet
      have hp := MapB.put HOK.out.1.2.1 hm3 HD.out HSET.out
      refine ⟨?_, ⟨hg3.os, hg3.tape, hg3.output, hg3.size, fun b' hb' hne => hg3.block b' hb' hne⟩⟩
      rw [if_pos HK1.out]
      exact (HST0.out.put hp hg3).congr fun x => by simp
    · have T1 : (kind == 1) = false := beq_eq_false_iff_ne.2 k1
      have HK1 := hide k1
      clear k1
      go_wp2_with fail
      go_meet
      rw [if_neg HK1.out]
      exact ⟨HST0.out.congr fun x => by simp, But.refl _ _ _⟩
  case rest =>
    obtain ⟨hst1, hbc⟩ := hcut
    have HST1 := hide hst1
    have HBC := hide hbc
    clear hst1 hbc y0 y1 y2 y3 y4 y5 y6 y7 y8
    have HT1 := hide (HT.out.stay (w' := wc) (fun b hb => HBC.out.block b (by have := HB0.out.size; have := HNE.out.1; unfold Lo at hb; omega) (fun e => by injection e with e; have := HST0.out.nB; unfold Lo at hb; omega)))
    obtain ⟨y0, y1, y2, y3, y4, y5, y6, y7, y8⟩ := box9 ((HBC.out.block _ (box_lt HG0.out) (fun e => by injection e with e; exact HNE.out.2 e)).trans HG0.out)
    have HSF := hide hsf
    clear hsf
    generalize wc = V at *
    go_wp2_with fail
    go_loopw [15] (fun i wr => SigRel kids N B Bm Bw (k + (if kind = 1 then [a] else []).length) (fun x => m x ∨ x ∈ (if kind = 1 then [a] else [])) V i wr) (fun i _ => kids.length - (intOf i).toNat)
    case atStart => exact ⟨0, Nat.zero_le _, rfl, by simpa using HST1.out, But.refl _ _ _⟩
    case round =>
      obtain ⟨wr1, rfl⟩ : ∃ w2 : World, w2 = wr := ⟨_, rfl⟩
      obtain ⟨j, hj, rfl, hst, hbr⟩ := hrel
      clear y0 y1 y2 y3 y4 y5 y6 y7 y8
      have HST := hide hst
      have HBR := hide hbr
      clear hst hbr
      by_cases hlt : j < kids.length
      · have hT : TreesAt wr1 (Lo N) KA kids := HT1.out.stay (fun b hb => HBR.out.block b (by have := HST1.out.map.lt; have := HST1.out.nB; unfold Lo at hb; omega) (fun e => by injection e with e; have := HST1.out.nB; unfold Lo at hb; omega))
        obtain ⟨bk, ok, rfl, hbk, hc⟩ := hT.row.at_ hlt
        have hkid := hT.each _ (List.getElem_mem hlt)
        have hmem := List.getElem_mem hlt
        have HNX := hide (sig_next hlt)
        have HLN := hide (sig_len hlt)
        have hokk := HOK.out.2 _ hmem
        generalize kids[j] = q at *
        have hz : wr1.heap.size ≠ B := fun e => by have := HST.out.map.lt; omega
        obtain ⟨W1, hW1⟩ : ∃ W1, wr1.alloc (.cells (cNd q).toArray 30) = W1 := ⟨_, rfl⟩
        have g1 := new_at hW1
        have hb1 : Below wr1.heap.size wr1 W1 := by rw [← hW1]; exact (Below.refl _ _).alloc (Nat.le_refl _) _
        have hNw1 : N ≤ wr1.heap.size := Nat.le_trans HST.out.nB (Nat.le_of_lt HST.out.map.lt)
        have hcall := IH.out q hmem W1 _ _ (HST.out.below hb1) (hkid.stay (stay_below hb1 fun b hb => Nat.lt_of_lt_of_le hb hNw1)) hokk (by have := HLN.out; have := hle; rw [HSF.out, List.length_append] at this; omega)
        obtain ⟨m1, m2, m3, m4, m5, m6, m7, m8, mK, mc, ml⟩ := q
        unfold cNd at hc hcall hW1 g1
        obtain ⟨c0, c1, c2, c3, c4, c5, c6, c7, c8⟩ := nine hc
        have cw : W1.cell? ⟨Bw, 0, none⟩ = some (.func (.func 98) #[] #[.pointer (some ⟨Bm, 0, none⟩), .pointer (some ⟨Bw, 0, none⟩)]) := by rw [cell_of_row W1 Bw 0 _ _ (0, 0) (HST.out.below hb1).vw]; rfl
        have HCALL := hide hcall
        have HW1 := hide hW1
        have HB1 := hide hb1
        clear hc hkid hokk hcall hW1 hb1 hmem hT
        go_upto_region 6 with (fail)
        rw [HW1.out]
        clear HW1 c0 c1 c2 c3 c4 c5 c6 c7 c8
        obtain ⟨x0, x1, x2, x3, x4, x5, x6, x7, x8⟩ := box9 g1
        clear g1
        go_wp2_with (go_at_call 98; refine HCALL.out.mono ?_; rintro e w2 ⟨rfl, hs2, hb2⟩; have HS2 := hide hs2; have HB2 := hide hb2; clear hs2 hb2)
        refine ⟨⟨j + 1, hlt, by go_num, ?_, ?_⟩, by simp [intOf]; omega⟩
        · have h := HS2.out
          rw [HNX.out, List.length_append, ← Nat.add_assoc]
          exact h.congr fun x => by rw [List.mem_append, or_assoc]
        · exact HBR.out.trans (((But.of HB1.out).mono HBR.out.size).trans (HB2.out.mono (Nat.le_trans HBR.out.size HB1.out.size)))
      · have hke : j = kids.length := by omega
        have HE := hide (show SigPost N B Bm Bw (k + (sigF (.mk kind at_ name value a b c d KA kc kids)).length) (fun x => m x ∨ x ∈ sigF (.mk kind at_ name value a b c d KA kc kids)) w (.returned (.tuple #[])) wr1 from by
          have h := HST.out
          rw [hke, List.take_length] at h
          refine ⟨rfl, ?_, ?_⟩
          · rw [HSF.out, List.length_append, ← Nat.add_assoc]
            exact h.congr fun x => by rw [List.mem_append, or_assoc]
          · exact (But.of HB0.out).trans ((HBC.out.mono HB0.out.size).trans (HBR.out.mono (Nat.le_trans HB0.out.size HBC.out.size))))
        clear hke HSF
        go_wp2_with fail
        go_end0
        exact HE.out

end Go.Proofs.YtbhcmnfeeogdhaaGreatDoor

/-
  condition.value: the value of a tree for the values of its signals.
-/
namespace Go.Proofs.YtbhcmnfeeogdhaaGreatDoor
open Go.RowKit

theorem infoStr : (Tryz.prog.info? 9).map (fun i => (i.zero, i.size, i.bytes)) = some (some (.string ByteArray.empty), 1, 16) := by kernel_rfl
/-- a list of strings that the call itself has made -/
def OwnStr (w : World) (base : Nat) (A : Option Addr) (c : Nat) (l : List ByteArray) : Prop := w.ownsRow base 9 1 (.slice A l.length c) l.length (l.map Value.string)
theorem OwnStr.nil (w : World) (base : Nat) : OwnStr w base none 0 [] := World.ownsRow_nil w base _ 1
theorem OwnStr.of_row {w : World} {base : Nat} {v : Value} {n : Nat} {vs : List Value} {l : List ByteArray} (h : w.ownsRow base 9 1 v n vs) (hn : n = l.length) (hv : vs = l.map Value.string) : ∃ A c, v = .slice A l.length c ∧ OwnStr w base A c l := by
  subst hn hv
  rcases Joins.ownsRow_forms h with ⟨rfl, h0⟩ | ⟨g, cap, rfl⟩
  · exact ⟨none, 0, by rw [h0], by unfold OwnStr; rw [h0] at h ⊢; exact h⟩
  · exact ⟨_, cap, rfl, h⟩
theorem OwnStr.cap {w : World} {base : Nat} {A : Option Addr} {c : Nat} {l : List ByteArray} (h : OwnStr w base A c l) : l.length ≤ c := by
  rcases h.2 with ⟨h2, h3⟩ | ⟨g', cap', cur, h2, _, _, h5, _⟩
  · omega
  · injection h2 with _ _ h2
    subst h2
    exact h5
theorem OwnStr.strs {w : World} {base : Nat} {A : Option Addr} {c : Nat} {l : List ByteArray} (h : OwnStr w base A c l) : StrsAt w (fun b => base ≤ b ∧ b < w.heap.size ∧ ob A = some b) A l := fun hne => by
  obtain ⟨g, rfl, h1⟩ := own_place h (List.length_pos_iff.2 hne)
  have h2 := own_ob h g rfl
  refine ⟨g, 0, rfl, ⟨h2.1, h2.2, rfl⟩, fun i s hi => ?_⟩
  rw [Nat.zero_add, World.ownsRow.cellAt h _ (by have := (List.getElem?_eq_some_iff.1 hi).1; omega), List.getElem?_map, hi]
  rfl
theorem OwnStr.below {w w' : World} {base : Nat} {A : Option Addr} {c : Nat} {l : List ByteArray} (h : OwnStr w base A c l) (hb : Below w.heap.size w w') : OwnStr w' base A c l := own_block h fun g hg => hb.block g (own_ob h g hg).2

def CvRel (env : Int → ByteArray) (l : List Nd) (w : World) (o i : Value) (wr : World) : Prop :=
  ∃ (j : Nat) (A : Option Addr) (c : Nat), j ≤ l.length ∧ i = .int .i64 (j : Int) ∧ o = .slice A j c ∧ OwnStr wr w.heap.size A c ((l.take j).map (valF env)) ∧ Below w.heap.size w wr
theorem str_one (s : ByteArray) : ∀ u ∈ [Value.string s], u.oneCell' = true := by
  intro u hu
  simp at hu
  subst hu
  rfl
theorem vL_eq (l : List ByteArray) : vL2 l = vL l := rfl
/-- trees whose values are short enough to be operands -/
def sizB (env : Int → ByteArray) (n : Nd) (l : List Prop) : Prop := (n.kind ≠ 1 → n.kind ≠ 2 → n.kind ≠ 4 → n.kind ≠ 5 → n.kids.length ≤ 1000 ∧ ∀ k ∈ n.kids, (valF env k).size ≤ 130) ∧ ∀ p ∈ l, p
def Siz (env : Int → ByteArray) (n : Nd) : Prop := n.fold (sizB env)
theorem Siz_eq (env : Int → ByteArray) (n : Nd) : Siz env n ↔ (n.kind ≠ 1 → n.kind ≠ 2 → n.kind ≠ 4 → n.kind ≠ 5 → n.kids.length ≤ 1000 ∧ ∀ k ∈ n.kids, (valF env k).size ≤ 130) ∧ ∀ k ∈ n.kids, Siz env k := by
  unfold Siz
  rw [Nd.fold_eq]
  unfold sizB
  refine and_congr_right fun _ => ⟨fun h k hk => h _ (List.mem_map.2 ⟨k, hk, rfl⟩), fun h p hp => ?_⟩
  obtain ⟨k, hk, rfl⟩ := List.mem_map.1 hp
  exact h k hk
def CvC (env : Int → ByteArray) (n : Nd) : Prop := ∀ (w : World) (Bm q : Nat), TreesAt w (Lo w.heap.size) n.KA n.kids → MapS w Bm q env → okF n → Siz env n →
  Calls Tryz.prog 51 #[.agg (cNd n).toArray, .map (some Bm)] w (RetV (.string (valF env n)) w)

set_option maxRecDepth 100000 in
set_option maxHeartbeats 8000000 in
theorem cval_any (env : Int → ByteArray) (n : Nd) : CvC env n := by
  obtain ⟨i0, hi0, hz0, hz1, hz2⟩ := info_parts infoStr
  induction n using Nd.ind with
  | h n ih =>
  intro w Bm q ht hm hok hsz
  have IH := hide ih
  have HOK := hide ((okF_eq n).1 hok)
  have HSZ := hide ((Siz_eq env n).1 hsz)
  clear ih hok hsz
  obtain ⟨kind, at_, name, value, a, b, c, d, KA, kc, kids⟩ := n
  unfold Nd.KA Nd.kids at ht
  dsimp only [Nd.kind, Nd.a, Nd.b, Nd.c, Nd.d, Nd.kids] at HOK HSZ
  unfold cNd
  have hl := ht.len
  obtain ⟨W0, hW0⟩ : ∃ W0, w.alloc (.cells #[.int .i64 kind, .int .i64 at_, .string name, .string value, .int .i64 a, .int .i64 b, .int .i64 c, .int .i64 d, .slice KA kids.length kc] 30) = W0 := ⟨_, rfl⟩
  have g0 := new_at hW0
  have hb0 : Below w.heap.size w W0 := by rw [← hW0]; exact (Below.refl _ _).alloc (Nat.le_refl _) _
  have HT := hide (ht.grow hb0)
  have HM := hide (hm.block (hb0.block _ hm.lt))
  have HG0 := hide g0
  have HB0 := hide hb0
  have HW0 := hide hW0
  obtain ⟨y0, y1, y2, y3, y4, y5, y6, y7, y8⟩ := box9 g0
  clear ht g0 hb0 hW0 hm
  have HQ := hide (show ∀ (o : ByteArray) (wr : World), valF env (.mk kind at_ name value a b c d KA kc kids) = o → Below W0.heap.size W0 wr → RetV (.string (valF env (.mk kind at_ name value a b c d KA kc kids))) w (.returned (.string o)) wr from fun o wr h hb => ⟨by rw [h], bstep HB0.out hb⟩)
  have HEQ := hide (valF_mk env kind at_ name value a b c d KA kc kids)
  go_enter Tryz.func51, Tryz.ntmps51
  go_upto_region 1 with (fail)
  rw [HW0.out]
  by_cases k1 : kind = 1
  · subst k1
    rw [if_pos rfl] at HEQ
    have HR := hide (HQ.out _ W0 HEQ.out (Below.refl _ _))
    have hlook := HM.out.look HOK.out.1.2.1
    clear HQ HEQ
    go_wp2_with fail
    go_ret
    exact HR.out
  rw [if_neg k1] at HEQ
  have T1 : (kind == 1) = false := beq_eq_false_iff_ne.2 k1
  by_cases k2 : kind = 2 ∨ kind = 4 ∨ kind = 5
  · rw [if_pos k2] at HEQ
    have HR := hide (HQ.out _ W0 HEQ.out (Below.refl _ _))
    clear HQ HEQ k1
    rcases k2 with rfl | rfl | rfl
    all_goals
      go_wp2_with fail
      go_ret
      exact HR.out
  rw [if_neg k2] at HEQ
  have T2 : (kind == 2) = false := beq_eq_false_iff_ne.2 fun h => k2 (.inl h)
  have T4 : (kind == 4) = false := beq_eq_false_iff_ne.2 fun h => k2 (.inr (.inl h))
  have T5 : (kind == 5) = false := beq_eq_false_iff_ne.2 fun h => k2 (.inr (.inr h))
  have hbd := HSZ.out.1 k1 (fun h => k2 (.inl h)) (fun h => k2 (.inr (.inl h))) (fun h => k2 (.inr (.inr h)))
  have hkl := hbd.1
  have HBD := hide hbd.2
  clear k1 k2 hbd
  go_upto_region 10 with (fail)
  go_loopw [5, 25] (fun o i wr => CvRel env kids W0 o i wr) (fun _ i _ => kids.length - (intOf i).toNat)
  case atStart => exact ⟨0, none, 0, Nat.zero_le _, rfl, rfl, OwnStr.nil _ _, Below.refl _ _⟩
  case round =>
    obtain ⟨j, A, c2, hj, rfl, rfl, hown, hbr⟩ := hrel
    have HOWN := hide hown
    have HBR := hide hbr
    clear hown hbr y0 y1 y2 y3 y4 y5 y6 y7 y8
    obtain ⟨y0, y1, y2, y3, y4, y5, y6, y7, y8⟩ := box9 ((HBR.out.block _ (box_lt HG0.out)).trans HG0.out)
    by_cases hlt : j < kids.length
    · have hT := HT.out.grow HBR.out
      obtain ⟨bk, ok, rfl, hbk, hc⟩ := hT.row.at_ hlt
      have hmem := List.getElem_mem hlt
      have hkid := hT.each _ hmem
      have hokk := HOK.out.2 _ hmem
      have hszk := HSZ.out.2 _ hmem
      have HTK := hide (show (kids.take (j + 1)).map (valF env) = (kids.take j).map (valF env) ++ [valF env kids[j]] by rw [List.take_succ_eq_append_getElem hlt, List.map_append]; rfl)
      have hlk : ((kids.take j).map (valF env)).length = j := by simp; omega
      generalize kids[j] = qn at *
      obtain ⟨W1, hW1⟩ : ∃ W1, wr.alloc (.cells (cNd qn).toArray 30) = W1 := ⟨_, rfl⟩
      have g1 := new_at hW1
      have hb1 : Below wr.heap.size wr W1 := by rw [← hW1]; exact (Below.refl _ _).alloc (Nat.le_refl _) _
      have hcall := IH.out qn hmem W1 Bm q (hkid.grow hb1) (HM.out.block ((bstep HBR.out hb1).block _ HM.out.lt)) hokk hszk
      have HO1 := hide (HOWN.out.below hb1)
      generalize valF env qn = v at *
      obtain ⟨m1, m2, m3, m4, m5, m6, m7, m8, mK, mc, ml⟩ := qn
      unfold cNd at hc hcall hW1 g1
      obtain ⟨c0, c1, c2', c3, c4, c5, c6, c7, c8⟩ := nine hc
      have HC := hide hcall
      have HB1 := hide (bstep HBR.out hb1)
      have HW1 := hide hW1
      clear hc hkid hokk hszk hcall hW1 hb1 hmem hT y0 y1 y2 y3 y4 y5 y6 y7 y8
      go_upto_region 12 with (fail)
      rw [HW1.out]
      clear HW1 c0 c1 c2' c3 c4 c5 c6 c7 c8
      obtain ⟨x0, x1, x2, x3, x4, x5, x6, x7, x8⟩ := box9 g1
      clear g1
      go_wp2_with first
        | (go_at_call 51; refine HC.out.mono ?_; rintro e w2 ⟨rfl, hb2⟩; have HB2 := hide hb2; have HO2 := hide (HO1.out.below hb2); have HO3 := hide (World.ownsRow.alloc HO2.out (.cells #[.string v] 9)); have HN := hide (heap_alloc_new w2 (.cells #[.string v] 9)); rw [hlk] at HO3; have hzw2 := hb2.size; clear hb2 x0 x1 x2 x3 x4 x5 x6 x7 x8)
        | (at_builtin; (refine append_src rfl _ _ 49 rfl W0.heap.size 9 i0 _ 1 16 Tryz.underlying49 hi0 hz0 hz1 hz2 rfl (by decide) (.slice A j c2) j (((kids.take j).map (valF env)).map Value.string) rfl HO3.out (some ⟨w2.heap.size, 0, none⟩) 1 1 [.string v] rfl rfl (src_block (t := 9) (fr := (0, 0)) HN.out) (str_one v) (by simp only [maxLen]; omega) (by omega) (by have := HB1.out.size; simp; omega) ?_); intro v' w3 hown3 hg3)
      obtain ⟨A3, c3, rfl, ho3⟩ := OwnStr.of_row (l := (kids.take (j + 1)).map (valF env)) hown3 (by rw [HTK.out]; simp; omega) (by rw [HTK.out]; simp)
      have hlk3 : ((kids.take (j + 1)).map (valF env)).length = j + 1 := by simp; omega
      rw [hlk3]
      refine ⟨⟨j + 1, A3, c3, hlt, by go_num, rfl, ho3, ?_⟩, by simp [intOf]; omega⟩
      exact ((bstep HB1.out HB2.out).alloc (by have := HB1.out.size; omega) _).grown hg3 (by have := HB1.out.size; simp; omega) (fun g hg => by rw [ob_eq] at hg; exact (own_ob HO2.out g hg).1)
    · have hke : j = kids.length := by omega
      subst hke
      rw [List.take_length] at HOWN
      have hap := apply_any ⟨kind, at_, name, value, a, b, c, d, .slice KA kids.length kc⟩ A c2 (kids.map (valF env)) wr (HOWN.out.strs.more fun b h => h.2.1) (by simp; omega) HOWN.out.cap (fun v hv => by obtain ⟨k, hk, rfl⟩ := List.mem_map.1 hv; exact HBD.out k hk) HOK.out.1.2.1 HOK.out.1.2.2.1
      unfold encNf at hap
      dsimp only at hap
      rw [List.length_map] at hap
      have HAP := hide hap
      have HR := hide (fun wx hb => HQ.out _ wx HEQ.out hb)
      rw [vL_eq] at HR
      clear HQ HEQ hap
      go_wp2_with (go_at_call 96; refine HAP.out.mono ?_; rintro e w2 ⟨rfl, hb2⟩; have HB2 := hide hb2; clear hb2)
      go_ret
      exact HR.out _ (bstep HBR.out HB2.out)

end Go.Proofs.YtbhcmnfeeogdhaaGreatDoor

/-
  Words for slices of integers in memory.
-/
namespace Go.Proofs.YtbhcmnfeeogdhaaGreatDoor
open Go.RowKit Go.Joins

/-- a slice of integers -/
def IntsAt (w : World) (B : Nat) (A : Option Addr) (zs : List Int) : Prop :=
  zs ≠ [] → ∃ b off, A = some ⟨b, off, none⟩ ∧ b < B ∧ ∀ i z, zs[i]? = some z → w.cell? ⟨b, off + i, none⟩ = some (.int .i64 z)
def OwnInt (w : World) (base : Nat) (A : Option Addr) (c : Nat) (zs : List Int) : Prop := w.ownsRow base 3 1 (.slice A zs.length c) zs.length (zs.map (Value.int .i64))

section
variable {w w' : World} {B B' base base' : Nat} {A : Option Addr} {c : Nat} {zs : List Int}
theorem IntsAt.nil : IntsAt w B A [] := fun h => absurd rfl h
theorem IntsAt.keep (h : IntsAt w B A zs) (hk : ∀ p : Addr, p.block < B → w'.cell? p = w.cell? p) : IntsAt w' B A zs := fun hx => by
  obtain ⟨b, off, e, hb, hc⟩ := h hx
  exact ⟨b, off, e, hb, fun i x hi => (hk _ hb).trans (hc i x hi)⟩
theorem IntsAt.below (h : IntsAt w B A zs) (hb : Below B w w') : IntsAt w' B A zs := h.keep fun _ hp => hb.cell hp
theorem IntsAt.more (h : IntsAt w B A zs) (hB : B ≤ B') : IntsAt w B' A zs := fun hx => by
  obtain ⟨b, off, e, hb, hc⟩ := h hx
  exact ⟨b, off, e, by omega, hc⟩
theorem IntsAt.drewN (h : IntsAt w B A zs) (n : Nat) : IntsAt (w.drewN n) B A zs := h
theorem IntsAt.at_ (h : IntsAt w B A zs) {k : Nat} (hk : k < zs.length) : ∃ b off, A = some ⟨b, off, none⟩ ∧ b < B ∧ w.cell? ⟨b, off + k, none⟩ = some (.int .i64 zs[k]) := by
  obtain ⟨b, off, e, hb, hc⟩ := h (fun e => by subst e; simp at hk)
  exact ⟨b, off, e, hb, hc k zs[k] (List.getElem?_eq_getElem hk)⟩
theorem OwnInt.nil (w : World) (base : Nat) : OwnInt w base none 0 [] := World.ownsRow_nil w base _ 1
theorem OwnInt.lower (h : OwnInt w base A c zs) (hb : base' ≤ base) : OwnInt w base' A c zs := Joins.ownsRow_le h hb
theorem OwnInt.alloc (h : OwnInt w base A c zs) (o : Obj) : OwnInt (w.alloc o) base A c zs := World.ownsRow.alloc h o
theorem OwnInt.drewN (h : OwnInt w base A c zs) (n : Nat) : OwnInt (w.drewN n) base A c zs := h
theorem OwnInt.below {B : Nat} (h : OwnInt w base A c zs) (hb : Below B w w') (hB : w.heap.size ≤ B) : OwnInt w' base A c zs := by
  refine ⟨h.1, ?_⟩
  rcases h.2 with h2 | ⟨g, cap, cur, h2, h3, h4, h5⟩
  · exact .inl h2
  · exact .inr ⟨g, cap, cur, h2, h3, (hb.block g (by have := (Array.getElem?_eq_some_iff.1 h4).1; omega)).trans h4, h5⟩
theorem OwnInt.form (h : OwnInt w base A c zs) : (A = none ∧ c = 0 ∧ zs = []) ∨ ∃ g, A = some ⟨g, 0, none⟩ ∧ base ≤ g ∧ g < w.heap.size ∧ zs.length ≤ c ∧ c ≤ maxLen := by
  rcases h.2 with ⟨h1, h2⟩ | ⟨g, cap, cur, h1, h2, h3, h4, h5, _⟩
  · injection h1 with h1 _ h3
    exact .inl ⟨h1, h3, List.eq_nil_of_length_eq_zero h2⟩
  · injection h1 with h1 _ h1'
    subst h1 h1'
    exact .inr ⟨g, rfl, h2, (Array.getElem?_eq_some_iff.1 h3).1, h4, h5⟩
theorem OwnInt.block (h : OwnInt w base A c zs) : ∀ k, (Value.slice A zs.length c).ownBlock = some k → base ≤ k := fun k hk => (World.ownsRow.lt h k hk).1
theorem OwnInt.ats (h : OwnInt w base A c zs) : IntsAt w w.heap.size A zs := fun hx => by
  rcases h.form with ⟨_, _, h3⟩ | ⟨g, rfl, _, h2, _, _⟩
  · exact absurd h3 hx
  · refine ⟨g, 0, rfl, h2, fun i x hi => ?_⟩
    have hlt : i < zs.length := (List.getElem?_eq_some_iff.1 hi).1
    rw [Nat.zero_add, World.ownsRow.cellAt h _ (by omega), List.getElem?_map, hi]
    rfl
theorem OwnInt.of_row {v : Value} {n : Nat} {vs : List Value} (h : w.ownsRow base 3 1 v n vs) (hn : n = zs.length) (hv : vs = zs.map (Value.int .i64)) : ∃ A c, v = .slice A zs.length c ∧ OwnInt w base A c zs := by
  subst hn hv
  rcases Joins.ownsRow_forms h with ⟨rfl, h0⟩ | ⟨g, cap, rfl⟩
  · exact ⟨none, 0, by rw [h0], by unfold OwnInt; rw [h0] at h ⊢; exact h⟩
  · exact ⟨_, cap, rfl, h⟩
end

theorem IntsAt.step {w w' : World} {A : Option Addr} {zs : List Int} (h : IntsAt w w.heap.size A zs) (hb : Below w.heap.size w w') : IntsAt w' w'.heap.size A zs := (h.below hb).more hb.size
theorem IntsAt.alloc {w : World} {A : Option Addr} {zs : List Int} (h : IntsAt w w.heap.size A zs) (o : Obj) : IntsAt (w.alloc o) (w.alloc o).heap.size A zs := h.step ((Below.refl _ _).alloc (Nat.le_refl _) _)
theorem IntsAt.drop {w : World} {B b off : Nat} {zs : List Int} (h : IntsAt w B (some ⟨b, off, none⟩) zs) (k : Nat) : IntsAt w B (some ⟨b, off + k, none⟩) (zs.drop k) := fun hne => by
  have hz : zs ≠ [] := fun e => hne (by rw [e]; simp)
  obtain ⟨b', off', e, hb, hc⟩ := h hz
  injection e with e
  injection e with e1 e2
  subst e1 e2
  refine ⟨b, off + k, rfl, hb, fun i z hi => ?_⟩
  rw [List.getElem?_drop] at hi
  rw [Nat.add_assoc]
  exact hc _ z hi
theorem IntsAt.take {w : World} {B : Nat} {A : Option Addr} {zs : List Int} (h : IntsAt w B A zs) (k : Nat) : IntsAt w B A (zs.take k) := fun hne => by
  obtain ⟨b, off, e, hb, hc⟩ := h (fun e => hne (by rw [e]; simp))
  refine ⟨b, off, e, hb, fun i z hi => ?_⟩
  rw [List.getElem?_take] at hi
  split at hi
  · exact hc _ z hi
  · cases hi

/-- 'append(out, xs...)' of integers that were laid into a block just before -/
theorem append_ints {ops : Array Oper} {rest : List Oper} {o : Oper} {a : Act} {Q : Exit → Act → World → Prop} {w : World} (hgd : o.guard = none) (s x : Operand)
    (ho : o.op = .call { callee := .builtin .append, args := #[s, x], argTypes := #[32, 32] })
    (base : Nat) (A : Option Addr) (c : Nat) (zs : List Int) (n : Nat) (hs : a.eval s = .slice A n c) (hn : n = zs.length) (news : List Int) (m cc : Nat)
    (N : Nat) (hx : a.eval x = .slice (some ⟨N, 0, none⟩) m cc) (hm : m = news.length) (hne : news ≠ []) (cs : Array Value) (wp : World) (hw : w.heap = wp.heap.push (.cells cs 3)) (hcs : cs.toList = news.map (Value.int .i64)) (hN : N = wp.heap.size)
    (hown : OwnInt wp base A c zs) (hlen : n + m ≤ 8796093022208) (hbase : base ≤ wp.heap.size)
    (h : ∀ (g c' : Nat) (w' : World) (row : Option Nat), OwnInt w' base (some ⟨g, 0, none⟩) c' (zs ++ news) → base ≤ g → w.grownBy w' row → (∀ k, row = some k → base ≤ k) →
      wpList Tryz.prog ops Q rest (a.put o.dst (.slice (some ⟨g, 0, none⟩) (n + m) c')) w') :
    wpList Tryz.prog ops Q (o :: rest) a w := by
  subst hn hm hN
  obtain ⟨i0, hi0, hz0, hz1, hz2⟩ := info_parts infoInt
  refine wpList_append_own _ hgd s x 32 ho base 3 i0 _ 1 8 Tryz.underlying32 hi0 hz0 hz1 hz2 rfl (by decide) _ zs.length (zs.map (Value.int .i64)) hs (own_push hown hw)
    ⟨wp.heap.size, 0, none⟩ news.length cc (news.map (Value.int .i64)) hx (by simp) (fun j u hu => by rw [cells_push hw, ← Array.getElem?_toList, hcs]; exact hu) (by simp [Value.oneCell']) (by simp only [maxLen]; omega) (by omega) (by rw [hw]; simp; omega) ?_
  intro v' w' ho' hg _
  obtain ⟨A', c', rfl, ho''⟩ := OwnInt.of_row (zs := zs ++ news) ho' (by simp) (by simp)
  rcases ho''.form with ⟨_, _, h3⟩ | ⟨g, rfl, h1, _⟩
  · simp [hne] at h3
  · have := h g c' w' _ ho'' h1 hg hown.block
    simpa using this

end Go.Proofs.YtbhcmnfeeogdhaaGreatDoor

/-
  Conditions as two lists of intervals in memory: boxes, own lists, what a call leaves behind it. No function of the program is named here.
-/
namespace Go.Proofs.YtbhcmnfeeogdhaaGreatDoor
open Go.RowKit Go.Joins

theorem two_boxes {w W0 : World} {t t' : TypeId} {a b a' b' : Value} (h : ((w.alloc (.cells #[a, b] t)).alloc (.cells #[a', b'] t')) = W0) :
    Below w.heap.size w W0 ∧ W0.heap.size = w.heap.size + 2 ∧ W0.heap[w.heap.size]? = some (.cells #[a, b] t (0, 0)) ∧ W0.heap[w.heap.size + 1]? = some (.cells #[a', b'] t' (0, 0)) := by
  subst h
  refine ⟨((Below.refl _ _).alloc (Nat.le_refl _) _).alloc (by simp) _, by simp, box_alloc (heap_alloc_new w _), ?_⟩
  have := heap_alloc_new (w.alloc (.cells #[a, b] t)) (.cells #[a', b'] t')
  simpa using this
theorem boxT2 {w : World} {N : Nat} {a b : Value} {t : TypeId} (h : w.heap[N]? = some (.cells #[a, b] t (0, 0))) : w.cell? ⟨N, 0, none⟩ = some a ∧ w.cell? ⟨N, 1, none⟩ = some b :=
  ⟨by rw [cell_of_row w N _ _ t (0, 0) h]; rfl, by rw [cell_of_row w N _ _ t (0, 0) h]; rfl⟩

/-- three boxes at the head of a call: the two conditions, and the result's -/
structure Three (w W : World) (a b a' b' : Value) : Prop where
  hb : Below w.heap.size w W
  hz : w.heap.size + 3 ≤ W.heap.size
  g0 : W.heap[w.heap.size]? = some (.cells #[a, b] 40 (0, 0))
  g1 : W.heap[w.heap.size + 1]? = some (.cells #[a', b'] 40 (0, 0))
  g2 : W.heap[w.heap.size + 2]? = some (.cells #[.slice none 0 0, .slice none 0 0] 40 (0, 0))

section
variable {w W W' : World} {a b a' b' : Value}
theorem Three.start (h : (((w.alloc (.cells #[a, b] 40)).alloc (.cells #[a', b'] 40)).alloc (.cells #[.slice none 0 0, .slice none 0 0] 40)) = W) : Three w W a b a' b' := by
  subst h
  obtain ⟨h1, h2, h3, h4⟩ := two_boxes (w := w) (a := a) (b := b) (a' := a') (b' := b') (t := 40) (t' := 40) rfl
  refine ⟨h1.alloc h1.size _, by simp, box_alloc h3, box_alloc h4, ?_⟩
  have := heap_alloc_new ((w.alloc (.cells #[a, b] 40)).alloc (.cells #[a', b'] 40)) (.cells #[.slice none 0 0, .slice none 0 0] 40)
  rw [h2] at this
  exact this
theorem Three.step (h : Three w W a b a' b') (b1 : Below W.heap.size W W') : Three w W' a b a' b' :=
  ⟨bstep h.hb b1, Nat.le_trans h.hz b1.size, box_below b1 h.g0, box_below b1 h.g1, box_below b1 h.g2⟩
theorem Three.drew (h : Three w W a b a' b') : Three w W.drew a b a' b' := ⟨below_drew h.hb, h.hz, h.g0, h.g1, h.g2⟩
theorem Three.c0 (h : Three w W a b a' b') : W.cell? ⟨w.heap.size, 0, none⟩ = some a ∧ W.cell? ⟨w.heap.size, 1, none⟩ = some b := boxT2 h.g0
theorem Three.c1 (h : Three w W a b a' b') : W.cell? ⟨w.heap.size + 1, 0, none⟩ = some a' ∧ W.cell? ⟨w.heap.size + 1, 1, none⟩ = some b' := boxT2 h.g1
theorem Three.all (h : Three w W a b a' b') : W.cell? ⟨w.heap.size, 0, none⟩ = some a ∧ W.cell? ⟨w.heap.size, 1, none⟩ = some b ∧ W.cell? ⟨w.heap.size + 1, 0, none⟩ = some a' ∧ W.cell? ⟨w.heap.size + 1, 1, none⟩ = some b' ∧ Three w W a b a' b' := ⟨h.c0.1, h.c0.2, h.c1.1, h.c1.2, h⟩
end

end Go.Proofs.YtbhcmnfeeogdhaaGreatDoor

/-
  The methods of the source, as an interface finds them.
-/
namespace Go.Proofs.YtbhcmnfeeogdhaaGreatDoor
open Go.RowKit

theorem meth_next (p : Option Addr) (F : Nat) (w : World) : (method (F + 1) 36 (.pointer p) "Next").run Tryz.prog w = .ok (321, .pointer p) w := by kernel_rfl
theorem meth_kind (p : Option Addr) (F : Nat) (w : World) : (method (F + 1) 36 (.pointer p) "Kind").run Tryz.prog w = .ok (320, .pointer p) w := by kernel_rfl
theorem meth_value (p : Option Addr) (F : Nat) (w : World) : (method (F + 1) 36 (.pointer p) "Value").run Tryz.prog w = .ok (322, .pointer p) w := by kernel_rfl
theorem meth_end (p : Option Addr) (F : Nat) (w : World) : (method (F + 1) 36 (.pointer p) "End").run Tryz.prog w = .ok (319, .pointer p) w := by kernel_rfl

end Go.Proofs.YtbhcmnfeeogdhaaGreatDoor

/-
  condition.Of: where a value of one bit is true and false; condition.within.
-/
namespace Go.Proofs.YtbhcmnfeeogdhaaGreatDoor
open Go.RowKit

set_option maxRecDepth 100000 in
theorem within_any (v : Wv) (L c : Int) (M : Nat) (f t : Int) (w : World) (h : SourceAt w M v L c) : Calls Tryz.prog 47 #[srcV M, .int .i64 f, .int .i64 t] w fun e w' => e = .returned (.bool (decide (0 ≤ f) && decide (f ≤ t) && decide (t ≤ v.fin))) ∧ w = w' := by
  have HE := hide (end_any M v L c w h)
  have hm := meth_end (some ⟨M, 0, none⟩)
  unfold srcV
  clear h
  by_cases h1 : 0 ≤ f
  · have T1 : decide (0 ≤ f) = true := decide_eq_true h1
    by_cases h2 : f ≤ t
    · have T2 : decide (f ≤ t) = true := decide_eq_true h2
      go_enter Tryz.func47, Tryz.ntmps47
      go_wp2_with fail
      refine HE.out.mono ?_
      rintro e w' ⟨rfl, rfl⟩
      go_wp2_with fail
      go_ret
      exact ⟨by first | rfl | (rw [T1, T2]; rfl), rfl⟩
    · have T2 : decide (f ≤ t) = false := decide_eq_false h2
      go_enter Tryz.func47, Tryz.ntmps47
      go_wp2_with fail
      go_ret
      exact ⟨by first | rfl | (rw [T1, T2]; rfl), rfl⟩
  · have T1 : decide (0 ≤ f) = false := decide_eq_false h1
    go_enter Tryz.func47, Tryz.ntmps47
    go_wp2_with fail
    go_ret
    exact ⟨by first | rfl | (rw [T1]; rfl), rfl⟩

end Go.Proofs.YtbhcmnfeeogdhaaGreatDoor

/-
  condition.equality and Compare, where both strings are bits of one length and the operator is an equality.
-/
namespace Go.Proofs.YtbhcmnfeeogdhaaGreatDoor
open Go.RowKit

/-- two places that are known and differ -/
def diffC (x y : UInt8) : Bool := knC x && knC y && (x != y)
def diffL (a b : List UInt8) : Bool := (List.zipWith diffC a b).any id
def eqP (a b : List UInt8) : Bool × Bool := if diffL a b then (false, true) else (knownB a && knownB b, knownB a && knownB b)

end Go.Proofs.YtbhcmnfeeogdhaaGreatDoor

/-
  condition.relation.
-/
namespace Go.Proofs.YtbhcmnfeeogdhaaGreatDoor
open Go.RowKit

/-- whether a relation holds for the result of a comparison -/
def relC (op c : Int) : Bool := if op = 23 then decide (c < 0) else if op = 24 then decide (c ≤ 0) else if op = 25 then decide (0 < c) else decide (0 ≤ c)
end Go.Proofs.YtbhcmnfeeogdhaaGreatDoor

/-
  decimal.canonical, Valid, magnitude, compare, Compare.
-/
namespace Go.Proofs.YtbhcmnfeeogdhaaGreatDoor
open Go.RowKit

def valB (s : ByteArray) : Bool := (canonC 1048576 s.data.toList).isSome
end Go.Proofs.YtbhcmnfeeogdhaaGreatDoor

/-
  decimal.magnitude, compare, Compare.
-/
namespace Go.Proofs.YtbhcmnfeeogdhaaGreatDoor
open Go.RowKit

section
variable {w W W' : World} {a b : Dec} {A B : Option Addr} {c d : Nat}
end

/-- the comparison, where both texts are canonical -/
def cmpB (s t : ByteArray) : Option Int := match canonC 1048576 s.data.toList, canonC 1048576 t.data.toList with
  | some a, some b => some (cmpD a b)
  | _, _ => none
end Go.Proofs.YtbhcmnfeeogdhaaGreatDoor

/-
  condition.Compare, for any kind, operator and strings.
-/
namespace Go.Proofs.YtbhcmnfeeogdhaaGreatDoor
open Go.RowKit

def eqS (a b : ByteArray) : Bool := a.toList == b.toList
def cmpBits (op : Int) (a b : ByteArray) : Bool × Bool :=
  if bitsB a.data.toList && bitsB b.data.toList && decide (a.size = b.size) then
    if op = 19 then ((eqP a.data.toList b.data.toList).1 && (eqP a.data.toList b.data.toList).2, (eqP a.data.toList b.data.toList).2)
    else if op = 20 then (!(eqP a.data.toList b.data.toList).1 && (eqP a.data.toList b.data.toList).2, (eqP a.data.toList b.data.toList).2)
    else if op = 21 then (eqS a b, true) else if op = 22 then (!eqS a b, true)
    else if knownB a.data.toList && knownB b.data.toList then (relC op (lexC a.data.toList b.data.toList), true) else (false, false)
  else (false, false)
def cmpReal (op : Int) (a b : ByteArray) : Bool × Bool :=
  if valB a && valB b then
    if op = 19 ∨ op = 21 then (eqS a b, true) else if op = 20 ∨ op = 22 then (!eqS a b, true)
    else (relC op ((cmpB a b).getD 0), true)
  else (false, false)
def cmpStr (op : Int) (a b : ByteArray) : Bool × Bool := if op = 19 ∨ op = 21 then (eqS a b, true) else if op = 20 ∨ op = 22 then (!eqS a b, true) else (false, false)
/-- the result of a comparison, and whether it is known -/
def cmpA (kind op : Int) (a b : ByteArray) : Bool × Bool :=
  if op < 19 ∨ 26 < op then (false, false) else if kind = 0 then cmpBits op a b else if kind = 1 then cmpReal op a b else if kind = 2 then cmpStr op a b else (false, false)
end Go.Proofs.YtbhcmnfeeogdhaaGreatDoor

/-
  What a resolved condition says at one moment, and which trees are resolved conditions. Plain; no program in sight.
-/
namespace Go.Proofs.YtbhcmnfeeogdhaaGreatDoor
open Go.RowKit

def bitS (p : Bool × Bool) : ByteArray := if p.2 then (if p.1 then ⟨#[49]⟩ else ⟨#[48]⟩) else ⟨#[120]⟩
def knownS (v : ByteArray) : Bool := knownB v.data.toList
def applyS (k : Int) (l : List ByteArray) : ByteArray := ⟨(applyL k 0 0 (vL2 l)).toArray⟩
def truB (env : Int → ByteArray) (n : Nd) (l : List ByteArray) : ByteArray :=
  if n.kind = 17 then ⟨#[49]⟩ else if n.kind = 18 then ⟨#[48]⟩
  else if 19 ≤ n.kind ∧ n.kind ≤ 26 then (match n.kids with | x :: y :: _ => bitS (cmpA (kindK x) n.kind (valF env x) (valF env y)) | _ => ⟨#[]⟩)
  else if n.kind = 27 then (match n.kids with | x :: _ => bitS (knownS (valF env x), true) | _ => ⟨#[]⟩)
  else if n.kind = 28 then (match l with | x :: _ => applyS 8 [x] | _ => ⟨#[]⟩)
  else if n.kind = 29 then (match l with | x :: y :: _ => applyS 9 [x, y] | _ => ⟨#[]⟩)
  else if n.kind = 30 then (match l with | x :: y :: _ => applyS 10 [x, y] | _ => ⟨#[]⟩)
  else bitS (decide (valF env n = ⟨#[49]⟩), knownS (valF env n))
def truF (env : Int → ByteArray) (n : Nd) : ByteArray := n.fold (truB env)
theorem truF_eq (env : Int → ByteArray) (n : Nd) : truF env n = truB env n (n.kids.map (truF env)) := Nd.fold_eq _ n

end Go.Proofs.YtbhcmnfeeogdhaaGreatDoor
