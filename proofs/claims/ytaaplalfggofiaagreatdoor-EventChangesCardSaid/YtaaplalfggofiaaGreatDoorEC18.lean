/-
  Several texts in one: QSigW, CVal. Each says at its head what it holds.
-/
import Derived.Test.YtaaplalfggofiaaGreatDoorEC17
import Derived.Test.YtaaplalfggofiaaGreatDoorEC4
import Derived.Test.YtaaplalfggofiaaGreatDoorEC14
import Derived.Test.YtaaplalfggofiaaGreatDoorEC2
import Derived.Maps.AppendAt
import Derived.Maps.OwnIn
import Derived.Test.YtaaplalfggofiaaGreatDoorEC6
import Derived.Test.YtaaplalfggofiaaGreatDoorEC3

/-
  The closure of qcheck.Signals: it gathers the signals of a tree.
-/
namespace Go.Proofs.YtaaplalfggofiaaGreatDoor
open Go.RowKit

/-- all numbers of a tree are ints -/
def okB (n : Nd) (l : List Prop) : Prop := (I64 n.kind ∧ I64 n.a ∧ I64 n.b ∧ I64 n.c ∧ I64 n.d) ∧ ∀ p ∈ l, p
def okF (n : Nd) : Prop := n.fold okB
theorem okF_eq (n : Nd) : okF n ↔ (I64 n.kind ∧ I64 n.a ∧ I64 n.b ∧ I64 n.c ∧ I64 n.d) ∧ ∀ k ∈ n.kids, okF k := by
  unfold okF
  rw [Nd.fold_eq]
  exact and_congr_right fun _ => ⟨fun h k hk => h _ (List.mem_map.2 ⟨k, hk, rfl⟩), fun h p hp => by
    obtain ⟨k, hk, rfl⟩ := List.mem_map.1 hp
    exact h k hk⟩

theorem sigF_mk (kind at_ : Int) (name value : ByteArray) (a b c d : Int) (KA : Option Addr) (kc : Nat) (kids : List Nd) : sigF (.mk kind at_ name value a b c d KA kc kids) = (if kind = 1 then [a] else []) ++ (kids.map sigF).flatten := sigF_eq _
/-- the boxes of Signals: the map, its variable, the closure's variable; trees lie below block N -/
structure SigSt (w : World) (N B Bm Bw k : Nat) (m : Int → Prop) : Prop where
  map : MapB w B k m
  vm : w.heap[Bm]? = some (.cells #[.map (some B)] 255 (0, 0))
  vw : w.heap[Bw]? = some (.cells #[.func (.func 188) #[] #[.pointer (some ⟨Bm, 0, none⟩), .pointer (some ⟨Bw, 0, none⟩)]] 256 (0, 0))
  nB : N ≤ B
  nm : N ≤ Bm
  nw : N ≤ Bw
section
variable {w w' : World} {N B Bm Bw k : Nat} {m m' : Int → Prop}
theorem SigSt.ne (h : SigSt w N B Bm Bw k m) : B ≠ Bm ∧ B ≠ Bw := by
  obtain ⟨es, clock, h1⟩ := h.map.obj
  refine ⟨fun e => ?_, fun e => ?_⟩
  · subst e; rw [h.vm] at h1; cases h1
  · subst e; rw [h.vw] at h1; cases h1
theorem SigSt.below (h : SigSt w N B Bm Bw k m) (hb : Below w.heap.size w w') : SigSt w' N B Bm Bw k m :=
  ⟨h.map.block (hb.block _ h.map.lt), box_below hb h.vm, box_below hb h.vw, h.nB, h.nm, h.nw⟩
theorem SigSt.put (h : SigSt w N B Bm Bw k m) (hm : MapB w' B (k + 1) m') (hg : w.grownBy w' (some B)) : SigSt w' N B Bm Bw (k + 1) m' :=
  ⟨hm, box_grown h.vm hg (fun e => by injection e with e; exact h.ne.1 e), box_grown h.vw hg (fun e => by injection e with e; exact h.ne.2 e), h.nB, h.nm, h.nw⟩
theorem SigSt.congr (h : SigSt w N B Bm Bw k m) (hm : ∀ i, m i ↔ m' i) : SigSt w N B Bm Bw k m' := ⟨h.map.congr hm, h.vm, h.vw, h.nB, h.nm, h.nw⟩
end
def SigPost (N B Bm Bw k : Nat) (m : Int → Prop) (w : World) (e : Ending) (w' : World) : Prop := e = .returned (.tuple #[]) ∧ SigSt w' N B Bm Bw k m ∧ But w.heap.size (some B) w w'
def SigRel (kids : List Nd) (N B Bm Bw k0 : Nat) (m0 : Int → Prop) (W : World) (i : Value) (wr : World) : Prop :=
  ∃ j : Nat, j ≤ kids.length ∧ i = .int .i64 (j : Int) ∧ SigSt wr N B Bm Bw (k0 + ((kids.take j).map sigF).flatten.length) (fun x => m0 x ∨ x ∈ ((kids.take j).map sigF).flatten) ∧ But W.heap.size (some B) W wr
theorem sig_next {kids : List Nd} {j : Nat} (hj : j < kids.length) : ((kids.take (j + 1)).map sigF).flatten = ((kids.take j).map sigF).flatten ++ sigF kids[j] := by
  rw [List.take_succ_eq_append_getElem hj, List.map_append, List.flatten_append]; simp
theorem sig_len {kids : List Nd} {j : Nat} (hj : j < kids.length) : ((kids.take j).map sigF).flatten.length + (sigF kids[j]).length ≤ (kids.map sigF).flatten.length := by
  have h : kids.map sigF = (kids.take (j + 1)).map sigF ++ (kids.drop (j + 1)).map sigF := by rw [← List.map_append, List.take_append_drop]
  rw [h, List.flatten_append, List.length_append, sig_next hj, List.length_append]
  omega

set_option maxRecDepth 100000 in
set_option maxHeartbeats 4000000 in
theorem sigw_any (N B Bm Bw : Nat) (n : Nd) : ∀ (w : World) (k : Nat) (m : Int → Prop), SigSt w N B Bm Bw k m → TreesAt w (Lo N) n.KA n.kids → okF n → k + (sigF n).length ≤ 1000000 →
    Calls Tryz.prog 188 #[.agg (cNd n).toArray, .pointer (some ⟨Bm, 0, none⟩), .pointer (some ⟨Bw, 0, none⟩)] w (SigPost N B Bm Bw (k + (sigF n).length) (fun x => m x ∨ x ∈ sigF n) w) := by
  induction n using Nd.ind with
  | h n ih =>
  intro w k m hst ht hok hle
  have IH := hide ih
  have HOK := hide ((okF_eq n).1 hok)
  clear ih hok
  obtain ⟨kind, at_, name, value, a, b, c, d, KA, kc, kids⟩ := n
  unfold Nd.KA Nd.kids at ht
  unfold cNd
  dsimp only [Nd.kind, Nd.a, Nd.b, Nd.c, Nd.d, Nd.kids] at HOK
  have hsf := sigF_mk kind at_ name value a b c d KA kc kids
  have hl := ht.len
  obtain ⟨W0, hW0⟩ : ∃ W0, w.alloc (.cells #[.int .i64 kind, .int .i64 at_, .string name, .string value, .int .i64 a, .int .i64 b, .int .i64 c, .int .i64 d, .slice KA kids.length kc] 28) = W0 := ⟨_, rfl⟩
  have g0 := new_at hW0
  have hb0 : Below w.heap.size w W0 := by rw [← hW0]; exact (Below.refl _ _).alloc (Nat.le_refl _) _
  have hst0 := hst.below hb0
  have hNw : N ≤ w.heap.size := Nat.le_trans hst.nB (Nat.le_of_lt hst.map.lt)
  have hNB : w.heap.size ≠ B := fun e => by have := hst.map.lt; omega
  have HT := hide (ht.stay (stay_below hb0 fun b hb => Nat.lt_of_lt_of_le hb hNw))
  have HG0 := hide g0
  have HB0 := hide hb0
  have HW0 := hide hW0
  obtain ⟨y0, y1, y2, y3, y4, y5, y6, y7, y8⟩ := box9 g0
  clear ht g0 hb0 hW0 hst
  go_enter Tryz.func188, Tryz.ntmps188
  go_upto_region 1 with (fail)
  rw [HW0.out]
  have HST0 := hide hst0
  clear hst0
  have HNE := hide (And.intro hNw hNB)
  go_upto_if 8 with (fail)
  go_cut [8] (fun _ wx => SigSt wx N B Bm Bw (k + (if kind = 1 then [a] else []).length) (fun x => m x ∨ x ∈ (if kind = 1 then [a] else [])) ∧ But W0.heap.size (some B) W0 wx)
  case first =>
    by_cases k1 : kind = 1
    · have T1 : (kind == 1) = true := beq_iff_eq.2 k1
      have vm := HST0.out.vm
      obtain ⟨D, hD, hset⟩ := HST0.out.map
      have cm : W0.cell? ⟨Bm, 0, none⟩ = some (.map (some B)) := by rw [cell_of_row W0 Bm 0 _ _ (0, 0) vm]; rfl
      have HD := hide hD
      have HSET := hide hset
      have HKEY := hide (keyOf_B HOK.out.1.2.1)
      have HVAL := hide (plainElem_bool (H := Unit) Tryz.underlying4 true)
      have hkn : k < maxLen := by unfold maxLen; omega
      have HK1 := hide k1
      clear vm hset k1
      go_wp2_with (at_mapUpdate; (refine wpList_mapUpdate_own _ rfl _ _ _ 255 rfl 3 4 intKeyB Tryz.underlying255 _ B k D rfl hD hkn _ _ (.int .i64 a) rfl rfl HKEY.out (.lit (.bool true)) [] HVAL.out ?_); intro V hm3 hg3)
      go_meet
      have hp := MapB.put HOK.out.1.2.1 hm3 HD.out HSET.out
      refine ⟨?_, ⟨hg3.os, hg3.tape, hg3.output, hg3.size, fun b' hb' hne => hg3.block b' hb' hne⟩⟩
      rw [if_pos HK1.out]
      exact (HST0.out.put hp hg3).congr fun x => by simp
    · have T1 : (kind == 1) = false := beq_eq_false_iff_ne.2 k1
      have HK1 := hide k1
      clear k1
      go_wp2_with fail
      go_meet
      rw [if_neg HK1.out]
      exact ⟨HST0.out.congr fun x => by simp, But.refl _ _ _⟩
  case rest =>
    obtain ⟨hst1, hbc⟩ := hcut
    have HST1 := hide hst1
    have HBC := hide hbc
    clear hst1 hbc y0 y1 y2 y3 y4 y5 y6 y7 y8
    have HT1 := hide (HT.out.stay (w' := wc) (fun b hb => HBC.out.block b (by have := HB0.out.size; have := HNE.out.1; unfold Lo at hb; omega) (fun e => by injection e with e; have := HST0.out.nB; unfold Lo at hb; omega)))
    obtain ⟨y0, y1, y2, y3, y4, y5, y6, y7, y8⟩ := box9 ((HBC.out.block _ (box_lt HG0.out) (fun e => by injection e with e; exact HNE.out.2 e)).trans HG0.out)
    have HSF := hide hsf
    clear hsf
    generalize wc = V at *
    go_wp2_with fail
    go_loopw [15] (fun i wr => SigRel kids N B Bm Bw (k + (if kind = 1 then [a] else []).length) (fun x => m x ∨ x ∈ (if kind = 1 then [a] else [])) V i wr) (fun i _ => kids.length - (intOf i).toNat)
    case atStart => exact ⟨0, Nat.zero_le _, rfl, by simpa using HST1.out, But.refl _ _ _⟩
    case round =>
      obtain ⟨wr1, rfl⟩ : ∃ w2 : World, w2 = wr := ⟨_, rfl⟩
      obtain ⟨j, hj, rfl, hst, hbr⟩ := hrel
      clear y0 y1 y2 y3 y4 y5 y6 y7 y8
      have HST := hide hst
      have HBR := hide hbr
      clear hst hbr
      by_cases hlt : j < kids.length
      · have hT : TreesAt wr1 (Lo N) KA kids := HT1.out.stay (fun b hb => HBR.out.block b (by have := HST1.out.map.lt; have := HST1.out.nB; unfold Lo at hb; omega) (fun e => by injection e with e; have := HST1.out.nB; unfold Lo at hb; omega))
        obtain ⟨bk, ok, rfl, hbk, hc⟩ := hT.row.at_ hlt
        have hkid := hT.each _ (List.getElem_mem hlt)
        have hmem := List.getElem_mem hlt
        have HNX := hide (sig_next hlt)
        have HLN := hide (sig_len hlt)
        have hokk := HOK.out.2 _ hmem
        generalize kids[j] = q at *
        have hz : wr1.heap.size ≠ B := fun e => by have := HST.out.map.lt; omega
        obtain ⟨W1, hW1⟩ : ∃ W1, wr1.alloc (.cells (cNd q).toArray 28) = W1 := ⟨_, rfl⟩
        have g1 := new_at hW1
        have hb1 : Below wr1.heap.size wr1 W1 := by rw [← hW1]; exact (Below.refl _ _).alloc (Nat.le_refl _) _
        have hNw1 : N ≤ wr1.heap.size := Nat.le_trans HST.out.nB (Nat.le_of_lt HST.out.map.lt)
        have hcall := IH.out q hmem W1 _ _ (HST.out.below hb1) (hkid.stay (stay_below hb1 fun b hb => Nat.lt_of_lt_of_le hb hNw1)) hokk (by have := HLN.out; have := hle; rw [HSF.out, List.length_append] at this; omega)
        obtain ⟨m1, m2, m3, m4, m5, m6, m7, m8, mK, mc, ml⟩ := q
        unfold cNd at hc hcall hW1 g1
        obtain ⟨c0, c1, c2, c3, c4, c5, c6, c7, c8⟩ := nine hc
        have cw : W1.cell? ⟨Bw, 0, none⟩ = some (.func (.func 188) #[] #[.pointer (some ⟨Bm, 0, none⟩), .pointer (some ⟨Bw, 0, none⟩)]) := by rw [cell_of_row W1 Bw 0 _ _ (0, 0) (HST.out.below hb1).vw]; rfl
        have HCALL := hide hcall
        have HW1 := hide hW1
        have HB1 := hide hb1
        clear hc hkid hokk hcall hW1 hb1 hmem hT
        go_upto_region 6 with (fail)
        rw [HW1.out]
        clear HW1 c0 c1 c2 c3 c4 c5 c6 c7 c8
        obtain ⟨x0, x1, x2, x3, x4, x5, x6, x7, x8⟩ := box9 g1
        clear g1
        go_wp2_with (go_at_call 188; refine HCALL.out.mono ?_; rintro e w2 ⟨rfl, hs2, hb2⟩; have HS2 := hide hs2; have HB2 := hide hb2; clear hs2 hb2)
        refine ⟨⟨j + 1, hlt, by go_num, ?_, ?_⟩, by simp [intOf]; omega⟩
        · have h := HS2.out
          rw [HNX.out, List.length_append, ← Nat.add_assoc]
          exact h.congr fun x => by rw [List.mem_append, or_assoc]
        · exact HBR.out.trans (((But.of HB1.out).mono HBR.out.size).trans (HB2.out.mono (Nat.le_trans HBR.out.size HB1.out.size)))
      · have hke : j = kids.length := by omega
        have HE := hide (show SigPost N B Bm Bw (k + (sigF (.mk kind at_ name value a b c d KA kc kids)).length) (fun x => m x ∨ x ∈ sigF (.mk kind at_ name value a b c d KA kc kids)) w (.returned (.tuple #[])) wr1 from by
          have h := HST.out
          rw [hke, List.take_length] at h
          refine ⟨rfl, ?_, ?_⟩
          · rw [HSF.out, List.length_append, ← Nat.add_assoc]
            exact h.congr fun x => by rw [List.mem_append, or_assoc]
          · exact (But.of HB0.out).trans ((HBC.out.mono HB0.out.size).trans (HBR.out.mono (Nat.le_trans HB0.out.size HBC.out.size))))
        clear hke HSF
        go_wp2_with fail
        go_end0
        exact HE.out

end Go.Proofs.YtaaplalfggofiaaGreatDoor

/-
  condition.value: the value of a tree for the values of its signals.
-/
namespace Go.Proofs.YtaaplalfggofiaaGreatDoor
open Go.RowKit

theorem infoStr : (Tryz.prog.info? 9).map (fun i => (i.zero, i.size, i.bytes)) = some (some (.string ByteArray.empty), 1, 16) := by kernel_rfl
/-- a list of strings that the call itself has made -/
def OwnStr (w : World) (base : Nat) (A : Option Addr) (c : Nat) (l : List ByteArray) : Prop := w.ownsRow base 9 1 (.slice A l.length c) l.length (l.map Value.string)
theorem OwnStr.nil (w : World) (base : Nat) : OwnStr w base none 0 [] := World.ownsRow_nil w base _ 1
theorem OwnStr.of_row {w : World} {base : Nat} {v : Value} {n : Nat} {vs : List Value} {l : List ByteArray} (h : w.ownsRow base 9 1 v n vs) (hn : n = l.length) (hv : vs = l.map Value.string) : ∃ A c, v = .slice A l.length c ∧ OwnStr w base A c l := by
  subst hn hv
  rcases Joins.ownsRow_forms h with ⟨rfl, h0⟩ | ⟨g, cap, rfl⟩
  · exact ⟨none, 0, by rw [h0], by unfold OwnStr; rw [h0] at h ⊢; exact h⟩
  · exact ⟨_, cap, rfl, h⟩
theorem OwnStr.cap {w : World} {base : Nat} {A : Option Addr} {c : Nat} {l : List ByteArray} (h : OwnStr w base A c l) : l.length ≤ c := by
  rcases h.2 with ⟨h2, h3⟩ | ⟨g', cap', cur, h2, _, _, h5, _⟩
  · omega
  · injection h2 with _ _ h2
    subst h2
    exact h5
theorem OwnStr.strs {w : World} {base : Nat} {A : Option Addr} {c : Nat} {l : List ByteArray} (h : OwnStr w base A c l) : StrsAt w (fun b => base ≤ b ∧ b < w.heap.size ∧ ob A = some b) A l := fun hne => by
  obtain ⟨g, rfl, h1⟩ := own_place h (List.length_pos_iff.2 hne)
  have h2 := own_ob h g rfl
  refine ⟨g, 0, rfl, ⟨h2.1, h2.2, rfl⟩, fun i s hi => ?_⟩
  rw [Nat.zero_add, World.ownsRow.cellAt h _ (by have := (List.getElem?_eq_some_iff.1 hi).1; omega), List.getElem?_map, hi]
  rfl
theorem OwnStr.below {w w' : World} {base : Nat} {A : Option Addr} {c : Nat} {l : List ByteArray} (h : OwnStr w base A c l) (hb : Below w.heap.size w w') : OwnStr w' base A c l := own_block h fun g hg => hb.block g (own_ob h g hg).2

def CvRel (env : Int → ByteArray) (l : List Nd) (w : World) (o i : Value) (wr : World) : Prop :=
  ∃ (j : Nat) (A : Option Addr) (c : Nat), j ≤ l.length ∧ i = .int .i64 (j : Int) ∧ o = .slice A j c ∧ OwnStr wr w.heap.size A c ((l.take j).map (valF env)) ∧ Below w.heap.size w wr
theorem str_one (s : ByteArray) : ∀ u ∈ [Value.string s], u.oneCell' = true := by
  intro u hu
  simp at hu
  subst hu
  rfl
theorem vL_eq (l : List ByteArray) : vL2 l = vL l := rfl
/-- trees whose values are short enough to be operands -/
def sizB (env : Int → ByteArray) (n : Nd) (l : List Prop) : Prop := (n.kind ≠ 1 → n.kind ≠ 2 → n.kind ≠ 4 → n.kind ≠ 5 → n.kids.length ≤ 1000 ∧ ∀ k ∈ n.kids, (valF env k).size ≤ 130) ∧ ∀ p ∈ l, p
def Siz (env : Int → ByteArray) (n : Nd) : Prop := n.fold (sizB env)
theorem Siz_eq (env : Int → ByteArray) (n : Nd) : Siz env n ↔ (n.kind ≠ 1 → n.kind ≠ 2 → n.kind ≠ 4 → n.kind ≠ 5 → n.kids.length ≤ 1000 ∧ ∀ k ∈ n.kids, (valF env k).size ≤ 130) ∧ ∀ k ∈ n.kids, Siz env k := by
  unfold Siz
  rw [Nd.fold_eq]
  unfold sizB
  refine and_congr_right fun _ => ⟨fun h k hk => h _ (List.mem_map.2 ⟨k, hk, rfl⟩), fun h p hp => ?_⟩
  obtain ⟨k, hk, rfl⟩ := List.mem_map.1 hp
  exact h k hk
def CvC (env : Int → ByteArray) (n : Nd) : Prop := ∀ (w : World) (Bm q : Nat), TreesAt w (Lo w.heap.size) n.KA n.kids → MapS w Bm q env → okF n → Siz env n →
  Calls Tryz.prog 87 #[.agg (cNd n).toArray, .map (some Bm)] w (RetV (.string (valF env n)) w)

set_option maxRecDepth 100000 in
set_option maxHeartbeats 8000000 in
theorem cval_any (env : Int → ByteArray) (n : Nd) : CvC env n := by
  obtain ⟨i0, hi0, hz0, hz1, hz2⟩ := info_parts infoStr
  induction n using Nd.ind with
  | h n ih =>
  intro w Bm q ht hm hok hsz
  have IH := hide ih
  have HOK := hide ((okF_eq n).1 hok)
  have HSZ := hide ((Siz_eq env n).1 hsz)
  clear ih hok hsz
  obtain ⟨kind, at_, name, value, a, b, c, d, KA, kc, kids⟩ := n
  unfold Nd.KA Nd.kids at ht
  dsimp only [Nd.kind, Nd.a, Nd.b, Nd.c, Nd.d, Nd.kids] at HOK HSZ
  unfold cNd
  have hl := ht.len
  obtain ⟨W0, hW0⟩ : ∃ W0, w.alloc (.cells #[.int .i64 kind, .int .i64 at_, .string name, .string value, .int .i64 a, .int .i64 b, .int .i64 c, .int .i64 d, .slice KA kids.length kc] 28) = W0 := ⟨_, rfl⟩
  have g0 := new_at hW0
  have hb0 : Below w.heap.size w W0 := by rw [← hW0]; exact (Below.refl _ _).alloc (Nat.le_refl _) _
  have HT := hide (ht.grow hb0)
  have HM := hide (hm.block (hb0.block _ hm.lt))
  have HG0 := hide g0
  have HB0 := hide hb0
  have HW0 := hide hW0
  obtain ⟨y0, y1, y2, y3, y4, y5, y6, y7, y8⟩ := box9 g0
  clear ht g0 hb0 hW0 hm
  have HQ := hide (show ∀ (o : ByteArray) (wr : World), valF env (.mk kind at_ name value a b c d KA kc kids) = o → Below W0.heap.size W0 wr → RetV (.string (valF env (.mk kind at_ name value a b c d KA kc kids))) w (.returned (.string o)) wr from fun o wr h hb => ⟨by rw [h], bstep HB0.out hb⟩)
  have HEQ := hide (valF_mk env kind at_ name value a b c d KA kc kids)
  go_enter Tryz.func87, Tryz.ntmps87
  go_upto_region 1 with (fail)
  rw [HW0.out]
  by_cases k1 : kind = 1
  · subst k1
    rw [if_pos rfl] at HEQ
    have HR := hide (HQ.out _ W0 HEQ.out (Below.refl _ _))
    have hlook := HM.out.look HOK.out.1.2.1
    clear HQ HEQ
    go_wp2_with fail
    go_ret
    exact HR.out
  rw [if_neg k1] at HEQ
  have T1 : (kind == 1) = false := beq_eq_false_iff_ne.2 k1
  by_cases k2 : kind = 2 ∨ kind = 4 ∨ kind = 5
  · rw [if_pos k2] at HEQ
    have HR := hide (HQ.out _ W0 HEQ.out (Below.refl _ _))
    clear HQ HEQ k1
    rcases k2 with rfl | rfl | rfl
    all_goals
      go_wp2_with fail
      go_ret
      exact HR.out
  rw [if_neg k2] at HEQ
  have T2 : (kind == 2) = false := beq_eq_false_iff_ne.2 fun h => k2 (.inl h)
  have T4 : (kind == 4) = false := beq_eq_false_iff_ne.2 fun h => k2 (.inr (.inl h))
  have T5 : (kind == 5) = false := beq_eq_false_iff_ne.2 fun h => k2 (.inr (.inr h))
  have hbd := HSZ.out.1 k1 (fun h => k2 (.inl h)) (fun h => k2 (.inr (.inl h))) (fun h => k2 (.inr (.inr h)))
  have hkl := hbd.1
  have HBD := hide hbd.2
  clear k1 k2 hbd
  go_upto_region 10 with (fail)
  go_loopw [5, 25] (fun o i wr => CvRel env kids W0 o i wr) (fun _ i _ => kids.length - (intOf i).toNat)
  case atStart => exact ⟨0, none, 0, Nat.zero_le _, rfl, rfl, OwnStr.nil _ _, Below.refl _ _⟩
  case round =>
    obtain ⟨j, A, c2, hj, rfl, rfl, hown, hbr⟩ := hrel
    have HOWN := hide hown
    have HBR := hide hbr
    clear hown hbr y0 y1 y2 y3 y4 y5 y6 y7 y8
    obtain ⟨y0, y1, y2, y3, y4, y5, y6, y7, y8⟩ := box9 ((HBR.out.block _ (box_lt HG0.out)).trans HG0.out)
    by_cases hlt : j < kids.length
    · have hT := HT.out.grow HBR.out
      obtain ⟨bk, ok, rfl, hbk, hc⟩ := hT.row.at_ hlt
      have hmem := List.getElem_mem hlt
      have hkid := hT.each _ hmem
      have hokk := HOK.out.2 _ hmem
      have hszk := HSZ.out.2 _ hmem
      have HTK := hide (show (kids.take (j + 1)).map (valF env) = (kids.take j).map (valF env) ++ [valF env kids[j]] by rw [List.take_succ_eq_append_getElem hlt, List.map_append]; rfl)
      have hlk : ((kids.take j).map (valF env)).length = j := by simp; omega
      generalize kids[j] = qn at *
      obtain ⟨W1, hW1⟩ : ∃ W1, wr.alloc (.cells (cNd qn).toArray 28) = W1 := ⟨_, rfl⟩
      have g1 := new_at hW1
      have hb1 : Below wr.heap.size wr W1 := by rw [← hW1]; exact (Below.refl _ _).alloc (Nat.le_refl _) _
      have hcall := IH.out qn hmem W1 Bm q (hkid.grow hb1) (HM.out.block ((bstep HBR.out hb1).block _ HM.out.lt)) hokk hszk
      have HO1 := hide (HOWN.out.below hb1)
      generalize valF env qn = v at *
      obtain ⟨m1, m2, m3, m4, m5, m6, m7, m8, mK, mc, ml⟩ := qn
      unfold cNd at hc hcall hW1 g1
      obtain ⟨c0, c1, c2', c3, c4, c5, c6, c7, c8⟩ := nine hc
      have HC := hide hcall
      have HB1 := hide (bstep HBR.out hb1)
      have HW1 := hide hW1
      clear hc hkid hokk hszk hcall hW1 hb1 hmem hT y0 y1 y2 y3 y4 y5 y6 y7 y8
      go_upto_region 12 with (fail)
      rw [HW1.out]
      clear HW1 c0 c1 c2' c3 c4 c5 c6 c7 c8
      obtain ⟨x0, x1, x2, x3, x4, x5, x6, x7, x8⟩ := box9 g1
      clear g1
      go_wp2_with first
        | (go_at_call 87; refine HC.out.mono ?_; rintro e w2 ⟨rfl, hb2⟩; have HB2 := hide hb2; have HO2 := hide (HO1.out.below hb2); have HO3 := hide (World.ownsRow.alloc HO2.out (.cells #[.string v] 9)); have HN := hide (heap_alloc_new w2 (.cells #[.string v] 9)); rw [hlk] at HO3; have hzw2 := hb2.size; clear hb2 x0 x1 x2 x3 x4 x5 x6 x7 x8)
        | (at_builtin; (refine append_src rfl _ _ 71 rfl W0.heap.size 9 i0 _ 1 16 Tryz.underlying71 hi0 hz0 hz1 hz2 rfl (by decide) (.slice A j c2) j (((kids.take j).map (valF env)).map Value.string) rfl HO3.out (some ⟨w2.heap.size, 0, none⟩) 1 1 [.string v] rfl rfl (src_block (t := 9) (fr := (0, 0)) HN.out) (str_one v) (by simp only [maxLen]; omega) (by omega) (by have := HB1.out.size; simp; omega) ?_); intro v' w3 hown3 hg3)
      obtain ⟨A3, c3, rfl, ho3⟩ := OwnStr.of_row (l := (kids.take (j + 1)).map (valF env)) hown3 (by rw [HTK.out]; simp; omega) (by rw [HTK.out]; simp)
      have hlk3 : ((kids.take (j + 1)).map (valF env)).length = j + 1 := by simp; omega
      rw [hlk3]
      refine ⟨⟨j + 1, A3, c3, hlt, by go_num, rfl, ho3, ?_⟩, by simp [intOf]; omega⟩
      exact ((bstep HB1.out HB2.out).alloc (by have := HB1.out.size; omega) _).grown hg3 (by have := HB1.out.size; simp; omega) (fun g hg => by rw [ob_eq] at hg; exact (own_ob HO2.out g hg).1)
    · have hke : j = kids.length := by omega
      subst hke
      rw [List.take_length] at HOWN
      have hap := apply_any ⟨kind, at_, name, value, a, b, c, d, .slice KA kids.length kc⟩ A c2 (kids.map (valF env)) wr (HOWN.out.strs.more fun b h => h.2.1) (by simp; omega) HOWN.out.cap (fun v hv => by obtain ⟨k, hk, rfl⟩ := List.mem_map.1 hv; exact HBD.out k hk) HOK.out.1.2.1 HOK.out.1.2.2.1
      unfold encNf at hap
      dsimp only at hap
      rw [List.length_map] at hap
      have HAP := hide hap
      have HR := hide (fun wx hb => HQ.out _ wx HEQ.out hb)
      rw [vL_eq] at HR
      clear HQ HEQ hap
      go_wp2_with (go_at_call 54; refine HAP.out.mono ?_; rintro e w2 ⟨rfl, hb2⟩; have HB2 := hide hb2; clear hb2)
      go_ret
      exact HR.out _ (bstep HBR.out HB2.out)

end Go.Proofs.YtaaplalfggofiaaGreatDoor
