/-
  Several texts in one: RSigs, Ref51b, Ref51c. Each says at its head what it holds.
-/
import Derived.Test.YtdlebcijgdkfjaaGreatDoorCV20
import Derived.Test.YtdlebcijgdkfjaaGreatDoorCV15
import Derived.Test.YtdlebcijgdkfjaaGreatDoorCV4

/-
  wavestoreref50.Signals: the signals of a tree, in order, each once.
-/
namespace Go.Proofs.YtdlebcijgdkfjaaGreatDoor
open Go.RowKit

def RSgPost (n : Nd) (w : World) (e : Ending) (w' : World) : Prop :=
  ∃ (b off c : Nat) (zs : List Int), e = .returned (.slice (some ⟨b, off, none⟩) zs.length c) ∧ IntsAt w' w'.heap.size (some ⟨b, off, none⟩) zs ∧ zs.length ≤ c ∧ Below w.heap.size w w' ∧ zs.Pairwise (· < ·) ∧ (∀ u, u ∈ zs ↔ u ∈ sigF n) ∧ zs.length ≤ (sigF n).length
/-- the signals so far: those of S -/
def RSgRel (S : List Int) (m : Nat) (w : World) (l : Value) (wr : World) : Prop :=
  ∃ (b off c : Nat) (zs : List Int), l = .slice (some ⟨b, off, none⟩) zs.length c ∧ IntsAt wr wr.heap.size (some ⟨b, off, none⟩) zs ∧ zs.length ≤ c ∧ Below w.heap.size w wr ∧ zs.Pairwise (· < ·) ∧ (∀ u, u ∈ zs ↔ u ∈ S) ∧ zs.length ≤ m
def RSgOut (S : List Int) (kids : List Nd) (w : World) (l i : Value) (wr : World) : Prop :=
  ∃ j : Nat, j ≤ kids.length ∧ i = .int .i64 (j : Int) ∧ RSgRel (S ++ ((kids.take j).map sigF).flatten) (S ++ ((kids.take j).map sigF).flatten).length w l wr
def RSgIn (S ms : List Int) (m : Nat) (w : World) (l i : Value) (wr : World) : Prop :=
  ∃ k : Nat, k ≤ ms.length ∧ i = .int .i64 (k : Int) ∧ RSgRel (S ++ ms.take k) (m + k) w l wr
theorem RSgRel.congr {S S' : List Int} {m m' : Nat} {w : World} {l : Value} {wr : World} (h : RSgRel S m w l wr) (hs : ∀ u, u ∈ S ↔ u ∈ S') (hm : m ≤ m') : RSgRel S' m' w l wr := by
  obtain ⟨b, off, c, zs, h1, h2, h3, h4, h5, h6, h7⟩ := h
  exact ⟨b, off, c, zs, h1, h2, h3, h4, h5, fun u => (h6 u).trans (hs u), Nat.le_trans h7 hm⟩
theorem rsigF_mk (kind at_ : Int) (name value : ByteArray) (a b c d : Int) (KA : Option Addr) (kc : Nat) (kids : List Nd) : sigF (.mk kind at_ name value a b c d KA kc kids) = (if kind = 1 then [a] else []) ++ (kids.map sigF).flatten := sigF_eq _
theorem flat_le {α : Type} (l : List (List α)) (j : Nat) : ((l.take j).flatten).length ≤ l.flatten.length := by
  have h : l.flatten = (l.take j).flatten ++ (l.drop j).flatten := by rw [← List.flatten_append, List.take_append_drop]
  rw [h, List.length_append]
  omega

set_option maxRecDepth 100000 in
set_option maxHeartbeats 8000000 in
theorem rsigs_any (n : Nd) : ∀ w : World, TreesAt w (Lo w.heap.size) n.KA n.kids → (sigF n).length ≤ 1000000 → Calls Tryz.prog 100 #[.agg (cNd n).toArray] w (RSgPost n w) := by
  induction n using Nd.ind with
  | h n ih =>
  intro w ht hle
  have IH := hide ih
  clear ih
  obtain ⟨n', hn'⟩ : ∃ n', n' = n := ⟨_, rfl⟩
  obtain ⟨kind, at_, name, value, a, b, c, d, KA, kc, kids⟩ := n
  have hsf := rsigF_mk kind at_ name value a b c d KA kc kids
  unfold Nd.KA Nd.kids at ht
  dsimp only [Nd.kids] at IH
  unfold cNd
  have hl := ht.len
  obtain ⟨S0, hS0⟩ : ∃ S0 : List Int, (if kind = 1 then [a] else []) = S0 := ⟨_, rfl⟩
  have HS0 := hide hS0
  rw [hS0] at hsf
  have HLE := hide (show (S0 ++ (kids.map sigF).flatten).length ≤ 1000000 by rw [← hsf]; exact hle)
  have HE := hide (show ∀ (l : Value) (wr : World), RSgRel (S0 ++ (kids.map sigF).flatten) (S0 ++ (kids.map sigF).flatten).length w l wr → RSgPost (.mk kind at_ name value a b c d KA kc kids) w (.returned l) wr from fun l wr h => by
    obtain ⟨b, off, c, zs, rfl, h2, h3, h4, h5, h6, h7⟩ := h
    exact ⟨b, off, c, zs, rfl, h2, h3, h4, h5, by rw [hsf]; exact h6, by rw [hsf]; exact h7⟩)
  obtain ⟨W0, hW0⟩ : ∃ W0, w.alloc (.cells #[.int .i64 kind, .int .i64 at_, .string name, .string value, .int .i64 a, .int .i64 b, .int .i64 c, .int .i64 d, .slice KA kids.length kc] 32) = W0 := ⟨_, rfl⟩
  have g0 := new_at hW0
  have hb0 : Below w.heap.size w W0 := by rw [← hW0]; exact (Below.refl _ _).alloc (Nat.le_refl _) _
  have HT := hide (ht.grow hb0)
  have HG0 := hide g0
  have HB0 := hide hb0
  have HW0 := hide hW0
  obtain ⟨y0, y1, y2, y3, y4, y5, y6, y7, y8⟩ := box9 g0
  clear ht g0 hb0 hW0 hsf hle hn' hS0
  go_enter Tryz.func100, Tryz.ntmps100
  go_upto_region 1 with (fail)
  rw [HW0.out]
  obtain ⟨W1, hW1⟩ : ∃ W1, W0.alloc (.cells #[] 3) = W1 := ⟨_, rfl⟩
  have hb1 : Below W0.heap.size W0 W1 := by rw [← hW1]; exact (Below.refl _ _).alloc (Nat.le_refl _) _
  have HW1 := hide hW1
  have HB1 := hide hb1
  clear hW1 hb1
  go_upto_region 2 with (fail)
  rw [HW1.out]
  clear y0 y1 y2 y3 y4 y5 y6 y7 y8
  obtain ⟨y0, y1, y2, y3, y4, y5, y6, y7, y8⟩ := box9 ((HB1.out.block _ (box_lt HG0.out)).trans HG0.out)
  go_upto_if 10 with (fail)
  go_cut [3] (fun l wx => RSgRel S0 S0.length w l wx ∧ Below W0.heap.size W0 wx)
  case first =>
    by_cases k1 : kind = 1
    · have HS := hide (show S0 = [a] by rw [← HS0.out, if_pos k1])
      subst k1
      have hcall := sadd_any W0.heap.size 0 0 [] a W1 IntsAt.nil (Nat.le_refl _) (by simp) List.Pairwise.nil
      dsimp only [List.length_nil] at hcall
      have HC := hide hcall
      clear hcall
      go_wp2_with fail
      refine HC.out.mono ?_
      rintro e w2 ⟨b1, o1, c1, ps, rfl, h1, h2, h3, h4, h5, h6, h7⟩
      have HR := hide (show RSgRel S0 S0.length w (.slice (some ⟨b1, o1, none⟩) ps.length c1) w2 from ⟨b1, o1, c1, ps, rfl, h1, h2, bstep HB0.out (bstep HB1.out h3), h4, by rw [HS.out]; simpa using h5, by rw [HS.out]; simpa using h6⟩)
      have HB2 := hide (bstep HB1.out h3)
      clear h1 h2 h3 h4 h5 h6 h7
      go_wp2_with fail
      go_meet
      exact ⟨HR.out, HB2.out⟩
    · have T1 : (kind == 1) = false := beq_eq_false_iff_ne.2 k1
      have HS := hide (show S0 = [] by rw [← HS0.out, if_neg k1])
      clear k1
      go_wp2_with fail
      go_meet
      exact ⟨⟨W0.heap.size, 0, 0, [], rfl, IntsAt.nil, Nat.le_refl _, bstep HB0.out HB1.out, List.Pairwise.nil, by rw [HS.out]; simp, by simp⟩, HB1.out⟩
  case rest =>
    obtain ⟨hr, hb⟩ := hcut
    obtain ⟨W2, rfl⟩ : ∃ x : World, x = wc := ⟨_, rfl⟩
    have HR := hide hr
    have HB2 := hide hb
    clear hr hb y0 y1 y2 y3 y4 y5 y6 y7 y8
    go_upto_region 5 with (fail)
    go_loopw [3, 4] (fun l i wr => RSgOut S0 kids w l i wr ∧ Below W0.heap.size W0 wr) (fun _ i _ => kids.length - (intOf i).toNat)
    case atStart =>
      refine ⟨⟨0, Nat.zero_le _, rfl, ?_⟩, HB2.out⟩
      simpa using HR.out
    case round =>
      obtain ⟨V, rfl⟩ : ∃ w2 : World, w2 = wr := ⟨_, rfl⟩
      obtain ⟨⟨j, hj, rfl, hr⟩, hbr⟩ := hrel
      have HBR := hide hbr
      have HRR := hide hr
      obtain ⟨y0, y1, y2, y3, y4, y5, y6, y7, y8⟩ := box9 ((hbr.block _ (box_lt HG0.out)).trans HG0.out)
      clear hbr hr
      by_cases hlt : j < kids.length
      · have hT := HT.out.grow HBR.out
        obtain ⟨bk, ok, rfl, hbk, hc⟩ := hT.row.at_ hlt
        have hmem := List.getElem_mem hlt
        have hkid := hT.each _ hmem
        have hcnt := flat_le (kids.map sigF) (j + 1)
        have hle := HLE.out
        have HTK := hide (show ((kids.take (j + 1)).map sigF).flatten = ((kids.take j).map sigF).flatten ++ sigF kids[j] by rw [List.take_succ_eq_append_getElem hlt, List.map_append, List.flatten_append]; simp only [List.map_cons, List.map_nil, List.flatten_cons, List.flatten_nil, List.append_nil])
        rw [← List.map_take, HTK.out, List.length_append] at hcnt
        rw [List.length_append] at hle
        have hcall := IH.out _ hmem V hkid (by omega)
        obtain ⟨Sj, hSj⟩ : ∃ Sj, S0 ++ ((kids.take j).map sigF).flatten = Sj := ⟨_, rfl⟩
        have hSl : Sj.length + (sigF kids[j]).length ≤ 1000000 := by rw [← hSj, List.length_append]; omega
        have HSJ := hide hSj
        rw [hSj] at HRR
        generalize kids[j] = m at *
        obtain ⟨m1, m2, m3, m4, m5, m6, m7, m8, mK, mc, ml⟩ := m
        generalize hmm : Nd.mk m1 m2 m3 m4 m5 m6 m7 m8 mK mc ml = m at hcall HTK hSl
        unfold cNd at hc
        have hcn : cNd m = [.int .i64 m1, .int .i64 m2, .string m3, .string m4, .int .i64 m5, .int .i64 m6, .int .i64 m7, .int .i64 m8, .slice mK ml.length mc] := by rw [← hmm]; rfl
        rw [hcn] at hcall
        obtain ⟨c0, c1, c2, c3, c4, c5, c6, c7, c8⟩ := nine hc
        have HC := hide hcall
        clear hc hcall hkid hT hmem hcnt hle hSj hmm hcn
        go_upto_region 7 with (fail)
        go_wp2_with fail
        refine HC.out.mono ?_
        rintro e w2 ⟨b1, o1, d1, ms, rfl, h1, h2, h3, h4, h5, h6⟩
        have HB3 := hide (bstep HBR.out h3)
        have HR3 := hide (show RSgRel Sj Sj.length w _ w2 from by
          obtain ⟨b2, o2, d2, zs, e1, g1, g2, g3, g4, g5, g6⟩ := HRR.out
          exact ⟨b2, o2, d2, zs, e1, g1.step h3, g2, bstep g3 h3, g4, g5, g6⟩)
        have HM1 := hide h1
        have HM5 := hide h5
        have hml : ms.length ≤ (sigF m).length := h6
        clear h1 h2 h3 h4 h5 h6 c0 c1 c2 c3 c4 c5 c6 c7 c8 y0 y1 y2 y3 y4 y5 y6 y7 y8
        go_upto_region 9 with (fail)
        go_loopw [3, 6] (fun l i wr => RSgIn Sj ms Sj.length w l i wr ∧ Below w2.heap.size w2 wr) (fun _ i _ => ms.length - (intOf i).toNat)
        case atStart =>
          refine ⟨⟨0, Nat.zero_le _, rfl, ?_⟩, Below.refl _ _⟩
          simpa using HR3.out
        case round =>
          obtain ⟨X, rfl⟩ : ∃ w2 : World, w2 = wr := ⟨_, rfl⟩
          obtain ⟨⟨k, hk, rfl, hr⟩, hbx⟩ := hrel
          have HBX := hide hbx
          have HRX := hide hr
          clear hr hbx
          by_cases hltk : k < ms.length
          · obtain ⟨b2, o2, e2, hb2, hc2⟩ := (HM1.out.step HBX.out).at_ hltk
            injection e2 with e2
            injection e2 with e2 e3
            subst e2 e3
            obtain ⟨b3, o3, d3, zs, rfl, g1, g2, g3, g4, g5, g6⟩ := HRX.out
            have HTM := hide (show ms.take (k + 1) = ms.take k ++ [ms[k]] from List.take_succ_eq_append_getElem hltk)
            generalize ms[k] = x at *
            have hcall := sadd_any b3 o3 d3 zs x X g1 g2 (by omega) g4
            have HC2 := hide hcall
            have HG5 := hide g5
            have HG3 := hide g3
            have HG6 := hide g6
            clear hcall g1 g2 g3 g4 g5 g6
            go_wp2_with fail
            refine HC2.out.mono ?_
            rintro e w3 ⟨b4, o4, d4, ps, rfl, p1, p2, p3, p4, p5, p6, p7⟩
            have HRN := hide (show RSgRel (Sj ++ ms.take (k + 1)) (Sj.length + (k + 1)) w (.slice (some ⟨b4, o4, none⟩) ps.length d4) w3 from ⟨b4, o4, d4, ps, rfl, p1, p2, bstep HG3.out p3, p4, fun u => by
              rw [p5, HG5.out, HTM.out, List.mem_append, List.mem_append, List.mem_append, List.mem_singleton]
              exact ⟨fun h => by rcases h with h | h | h <;> simp [h], fun h => by rcases h with h | h | h <;> simp [h]⟩, by have := HG6.out; omega⟩)
            have HBN := hide (bstep HBX.out p3)
            clear p1 p2 p3 p4 p5 p6 p7 hc2
            go_wp2_with fail
            exact ⟨⟨⟨k + 1, hltk, by go_num, HRN.out⟩, HBN.out⟩, by simp [intOf]; omega⟩
          · have hke : k = ms.length := by omega
            have HRN := hide (show RSgRel (S0 ++ (((kids.take (j + 1)).map sigF).flatten)) (S0 ++ (((kids.take (j + 1)).map sigF).flatten)).length w _ X from by
              have h := HRX.out
              rw [hke, List.take_length] at h
              rw [HTK.out, ← List.append_assoc, HSJ.out]
              refine h.congr (fun u => ?_) (by rw [List.length_append]; omega)
              rw [List.mem_append, List.mem_append, HM5.out])
            have HBN := hide (bstep HB3.out HBX.out)
            clear hke
            go_wp2_with fail
            exact ⟨⟨⟨j + 1, hlt, by go_num, HRN.out⟩, HBN.out⟩, by simp [intOf]; omega⟩
      · have hke : j = kids.length := by omega
        have HF := hide (show RSgPost (.mk kind at_ name value a b c d KA kc kids) w (.returned _) V from HE.out _ V (by have h := HRR.out; rw [hke, List.take_length] at h; exact h))
        obtain ⟨b2, o2, d2, zs, e1, -⟩ := HRR.out
        subst e1
        clear hke HE
        go_wp2_with fail
        go_ret
        exact HF.out

end Go.Proofs.YtdlebcijgdkfjaaGreatDoor

/-
  wavestoreref51.inverted, bit, sum.
-/
namespace Go.Proofs.YtdlebcijgdkfjaaGreatDoor
open Go.RowKit

theorem known1 {c : UInt8} {v : Bool} (h : Hid (knC c = v)) (w : World) : Calls Tryz.prog 40 #[.string ⟨#[c]⟩] w fun e w' => e = .returned (.bool v) ∧ w = w' :=
  (rknown_any ⟨#[c]⟩ w (by show 1 ≤ 1000; omega)).mono fun e w' ⟨h1, h2⟩ => ⟨by rw [h1, ← h.out]; simp [knownB], h2⟩

set_option maxRecDepth 100000 in
set_option maxHeartbeats 4000000 in
theorem bit_any (k : Int) (hk : k = 9 ∨ k = 10 ∨ k = 11) (a b : UInt8) (w : World) :
    Calls Tryz.prog 158 #[.int .i64 k, bv a, bv b] w fun e w' => e = .returned (bv (opC k a b)) ∧ Below w.heap.size w w' := by
  have kc := conv_one
  have kc2 : ∀ (w : World) (d c : UInt8), (convert 108 9 (.slice (some ⟨w.heap.size + 1, 0, none⟩) 1 1)).run Tryz.prog ((w.alloc (.cells #[bv d] 5)).alloc (.cells #[bv c] 5)) = .ok (.string ⟨#[c]⟩) ((w.alloc (.cells #[bv d] 5)).alloc (.cells #[bv c] 5)) := fun w d c => by
    have h := conv_one (w.alloc (.cells #[bv d] 5)) c
    rw [World.size_alloc] at h
    exact h
  have HOP := hide (op_tab k hk a b).1
  rcases code_cases a with ⟨rfl, h1, h2⟩ | ⟨rfl, h1, h2⟩ | ⟨p0, p1, p0', p1', h1, h2⟩
  all_goals
    have HA := hide h1
    have HKA := hide h2
    clear h1 h2
    rcases code_cases b with ⟨rfl, h1, h2⟩ | ⟨rfl, h1, h2⟩ | ⟨q0, q1, q0', q1', h1, h2⟩
    all_goals
      have HB := hide h1
      have HKB := hide h2
      clear h1 h2
      first | rw [HA.out, HB.out] at HOP | rw [HA.out] at HOP
      rcases hk with rfl | rfl | rfl
      all_goals
        go_enter Tryz.func158, Tryz.ntmps158
        go_wp2_with (first | (go_at_call 40; ((with_reducible refine (known1 HKA _).mono ?_); rintro e w1 ⟨rfl, rfl⟩)) | (go_at_call 40; ((with_reducible refine (known1 HKB _).mono ?_); rintro e w1 ⟨rfl, rfl⟩)))
        go_ret
        exact ⟨by rw [HOP.out]; rfl, by first | exact Below.refl _ _ | exact ((Below.refl _ _).alloc (Nat.le_refl _) _) | exact ((Below.refl _ _).alloc (Nat.le_refl _) _).alloc (by simp) _⟩

end Go.Proofs.YtdlebcijgdkfjaaGreatDoor

/-
  wavestoreref51.sum.
-/
namespace Go.Proofs.YtdlebcijgdkfjaaGreatDoor
open Go.RowKit

/-- a string by its bytes -/
def strB (l : List UInt8) : ByteArray := ⟨l.toArray⟩
theorem strB_cat (l m : List UInt8) : strB l ++ strB m = strB (l ++ m) := by
  apply ByteArray.ext
  simp [strB]
theorem strB_snoc (l : List UInt8) (c : UInt8) : strB l ++ ⟨#[c]⟩ = strB (l ++ [c]) := strB_cat l [c]
theorem strB_cons (c : UInt8) (l : List UInt8) : (⟨#[c]⟩ : ByteArray) ++ strB l = strB (c :: l) := strB_cat [c] l
theorem strB_size (l : List UInt8) : (strB l).size = l.length := by simp [strB, ByteArray.size]
theorem strB_list (l : List UInt8) : (strB l).data.toList = l := rfl
def XsRel (n : Nat) (out i : Value) : Prop := ∃ k : Nat, k ≤ n ∧ i = .int .i64 k ∧ out = .string (strB (List.replicate k (120 : UInt8)))

set_option maxRecDepth 100000 in
set_option maxHeartbeats 1000000 in
theorem rsum_unk (a b : ByteArray) (minus : Bool) (w : World) (hl : a.size ≤ 1000) (hb : b.size ≤ 1000) (hk : (knownB a.data.toList && knownB b.data.toList) = false) :
    Calls Tryz.prog 157 #[.string a, .string b, .bool minus] w fun e w' => e = .returned (.string (strB (List.replicate a.size (120 : UInt8)))) ∧ w = w' := by
  have HR := hide (show ∀ k, strB (List.replicate k (120 : UInt8)) ++ ⟨#[120]⟩ = strB (List.replicate (k + 1) 120) from fun k => by rw [strB_snoc, ← List.replicate_succ'])
  cases hka : knownB a.data.toList with
  | false =>
    have HKA := hide hka
    clear hka hk
    go_enter Tryz.func157, Tryz.ntmps157
    go_wp2_with fail
    refine (rknown_any a _ hl).mono ?_
    rw [HKA.out]
    rintro e w1 ⟨rfl, rfl⟩
    go_wp2_with fail
    go_loop [7, 8] (fun out i => XsRel a.size out i) (fun _ i => a.size - (intOf i).toNat)
    case atStart => exact ⟨0, Nat.zero_le _, rfl, rfl⟩
    case round =>
      obtain ⟨k, hk, rfl, rfl⟩ := hrel
      by_cases hlt : k < a.size
      · have hz : (strB (List.replicate k (120 : UInt8))).size = k := by rw [strB_size, List.length_replicate]
        have hz2 : (strB (List.replicate k (120 : UInt8))).size + 1 ≤ 9223372036854775807 := by omega
        clear hz
        go_wp2_with fail
        go_round
        case rel => exact ⟨k + 1, by omega, by go_num, by rw [HR.out]⟩
        case measure => simp [intOf]; omega
      · have hke : k = a.size := by omega
        subst hke
        go_wp2_with fail
        go_ret
        exact ⟨rfl, rfl⟩
  | true =>
    have hkb : knownB b.data.toList = false := by rw [hka] at hk; simpa using hk
    have HKA := hide hka
    have HKB := hide hkb
    clear hka hk hkb
    go_enter Tryz.func157, Tryz.ntmps157
    go_wp2_with fail
    refine (rknown_any a _ hl).mono ?_
    rw [HKA.out]
    rintro e w1 ⟨rfl, rfl⟩
    go_wp2_with fail
    refine (rknown_any b _ hb).mono ?_
    rw [HKB.out]
    rintro e w1 ⟨rfl, rfl⟩
    go_wp2_with fail
    go_loop [7, 8] (fun out i => XsRel a.size out i) (fun _ i => a.size - (intOf i).toNat)
    case atStart => exact ⟨0, Nat.zero_le _, rfl, rfl⟩
    case round =>
      obtain ⟨k, hk, rfl, rfl⟩ := hrel
      by_cases hlt : k < a.size
      · have hz : (strB (List.replicate k (120 : UInt8))).size = k := by rw [strB_size, List.length_replicate]
        have hz2 : (strB (List.replicate k (120 : UInt8))).size + 1 ≤ 9223372036854775807 := by omega
        clear hz
        go_wp2_with fail
        go_round
        case rel => exact ⟨k + 1, by omega, by go_num, by rw [HR.out]⟩
        case measure => simp [intOf]; omega
      · have hke : k = a.size := by omega
        subst hke
        go_wp2_with fail
        go_ret
        exact ⟨rfl, rfl⟩

theorem subR_carry : ∀ (xs ys : List UInt8) (c : Nat), c ≤ 1 → (subR xs ys c).2 ≤ 1
  | [], _, c, h => by simpa [subR] using h
  | _ :: _, [], c, h => by simpa [subR] using h
  | x :: xs, y :: ys, c, h => by
    simp only [subR]
    split <;> omega
theorem subR_drop (xs ys : List UInt8) (c : Nat) (h : xs.length = ys.length) (i : Nat) (hi : i < xs.length) :
    subR (xs.drop i) (ys.drop i) c = (UInt8.ofNat (48 + (nb xs[i] + nb (ys[i]'(by omega)) + (subR (xs.drop (i + 1)) (ys.drop (i + 1)) c).2) % 2) :: (subR (xs.drop (i + 1)) (ys.drop (i + 1)) c).1, if nb xs[i] < nb (ys[i]'(by omega)) + (subR (xs.drop (i + 1)) (ys.drop (i + 1)) c).2 then 1 else 0) := by
  rw [List.drop_eq_getElem_cons hi, List.drop_eq_getElem_cons (by omega : i < ys.length)]
  rfl
/-- sums or differences from place i on -/
def asR (minus : Bool) (xs ys : List UInt8) : List UInt8 × Nat := if minus then subR xs ys 0 else addR xs ys 0
theorem asR_carry (m : Bool) (xs ys : List UInt8) : (asR m xs ys).2 ≤ 1 := by
  unfold asR
  split
  · exact subR_carry _ _ _ (by omega)
  · exact addR_carry _ _ _ (by omega)
def asBit (x y c : Nat) : UInt8 := UInt8.ofNat (48 + (x + y + c) % 2)
def asCar (m : Bool) (x y c : Nat) : Nat := if m then (if x < y + c then 1 else 0) else (x + y + c) / 2
theorem asR_drop (m : Bool) (xs ys : List UInt8) (h : xs.length = ys.length) (i : Nat) (hi : i < xs.length) :
    asR m (xs.drop i) (ys.drop i) = (asBit (nb xs[i]) (nb (ys[i]'(by omega))) (asR m (xs.drop (i + 1)) (ys.drop (i + 1))).2 :: (asR m (xs.drop (i + 1)) (ys.drop (i + 1))).1, asCar m (nb xs[i]) (nb (ys[i]'(by omega))) (asR m (xs.drop (i + 1)) (ys.drop (i + 1))).2) := by
  unfold asR asBit asCar
  cases m
  · exact addR_drop xs ys 0 h i hi
  · exact subR_drop xs ys 0 h i hi
theorem asR_len (m : Bool) (xs ys : List UInt8) (h : xs.length = ys.length) (hk : knownB ys = true) : (asR m xs ys).1 = sumL xs ys m := by
  unfold asR sumL
  cases m
  · rfl
  · exact (sub_add xs ys h hk).1.symm

theorem subR_len : ∀ (xs ys : List UInt8) (c : Nat), xs.length = ys.length → (subR xs ys c).1.length = xs.length
  | [], [], _, _ => rfl
  | x :: xs, y :: ys, c, h => by simp only [subR, List.length_cons]; rw [subR_len xs ys c (by simpa using h)]
  | [], _ :: _, _, h => by simp at h
  | _ :: _, [], _, h => by simp at h
theorem asR_size (m : Bool) (xs ys : List UInt8) (h : xs.length = ys.length) : (asR m xs ys).1.length = xs.length := by
  unfold asR
  cases m
  · exact addR_len xs ys 0 h
  · exact subR_len xs ys 0 h
def AsRel (m : Bool) (a b : ByteArray) (w : World) (out cv iv : Value) (wr : World) : Prop :=
  ∃ i : Nat, i ≤ a.size ∧ iv = .int .i64 ((i : Int) - 1) ∧ cv = .int .i64 ((asR m (a.data.toList.drop i) (b.data.toList.drop i)).2 : Int) ∧ out = .string (strB (asR m (a.data.toList.drop i) (b.data.toList.drop i)).1) ∧ Below w.heap.size w wr

set_option maxRecDepth 100000 in
set_option maxHeartbeats 4000000 in
theorem rsum_kn (a b : ByteArray) (m : Bool) (w : World) (hl : a.size ≤ 1000) (hab : a.size = b.size) (hka : knownB a.data.toList = true) (hkb : knownB b.data.toList = true) :
    Calls Tryz.prog 157 #[.string a, .string b, .bool m] w fun e w' => e = .returned (.string (strB (sumL a.data.toList b.data.toList m))) ∧ Below w.heap.size w w' := by
  have hla : a.data.toList.length = a.size := by simp
  have hlb : b.data.toList.length = b.size := by simp
  have hb : b.size ≤ 1000 := by omega
  have HC := hide (show asR m (a.data.toList.drop a.size) (b.data.toList.drop a.size) = ([], 0) by
    rw [List.drop_of_length_le (by omega), List.drop_of_length_le (by omega)]; cases m <;> rfl)
  have HFIN := hide (asR_len m a.data.toList b.data.toList (by omega) hkb)
  have HKA := hide hka
  have HKB := hide hkb
  have HAB := hide hab
  clear hka hkb hab hla hlb
  have kc0 : ∀ (w : World) (n : Nat), (convert 108 9 (.slice (some ⟨w.heap.size, 0, none⟩) 1 1)).run Tryz.prog ((w.drewN n).alloc (.cells #[.int .u8 48] 5)) = .ok (.string ⟨#[48]⟩) ((w.drewN n).alloc (.cells #[.int .u8 48] 5)) := fun w n => conv_one (w.drewN n) 48
  have kc1 : ∀ (w : World) (n : Nat), (convert 108 9 (.slice (some ⟨w.heap.size, 0, none⟩) 1 1)).run Tryz.prog ((w.drewN n).alloc (.cells #[.int .u8 49] 5)) = .ok (.string ⟨#[49]⟩) ((w.drewN n).alloc (.cells #[.int .u8 49] 5)) := fun w n => conv_one (w.drewN n) 49
  have HCON := hide strB_cons
  have hab := HAB.out
  have HLN := hide (show ∀ i, (asR m (a.data.toList.drop i) (b.data.toList.drop i)).1.length ≤ 1000 from fun i => by
    rw [asR_size m _ _ (by simp; omega)]; simp; omega)
  clear hab
  go_enter Tryz.func157, Tryz.ntmps157
  go_wp2_with fail
  refine (rknown_any a _ hl).mono ?_
  rw [HKA.out]
  rintro e w1 ⟨rfl, rfl⟩
  go_wp2_with fail
  refine (rknown_any b _ hb).mono ?_
  rw [HKB.out]
  rintro e w1 ⟨rfl, rfl⟩
  go_wp2_with fail
  go_loopw [7, 9, 10] (fun out cv iv wr => AsRel m a b w out cv iv wr) (fun _ _ iv _ => (intOf iv + 1).toNat)
  case atStart => exact ⟨a.size, Nat.le_refl _, rfl, by rw [HC.out]; rfl, by rw [HC.out]; rfl, Below.refl _ _⟩
  case round =>
    obtain ⟨j, hj, rfl, rfl, rfl, hbr⟩ := hrel
    cases j with
    | zero =>
      rw [List.drop_zero, List.drop_zero, HFIN.out]
      have j0 : ((0 : Nat) : Int) - 1 = -1 := rfl
      rw [j0]
      go_wp2_with fail
      go_ret
      exact ⟨rfl, hbr⟩
    | succ i =>
      have hia : i < a.size := by omega
      have hib : i < b.size := by have := HAB.out; omega
      have hja : (i : Int) < (a.size : Int) := by omega
      have hjb : (i : Int) < (b.size : Int) := by omega
      have hj0 : (0 : Int) ≤ (i : Int) := by omega
      have va : (a[i].toNat : Int) = 48 + (nb a[i] : Int) := nb_val (kn_at (l := a.data.toList) HKA.out (by simpa using hia))
      have vb : (b[i].toNat : Int) = 48 + (nb b[i] : Int) := nb_val (kn_at (l := b.data.toList) HKB.out (by simpa using hib))
      have hna := nb_le a[i]
      have hnb := nb_le b[i]
      have hcy := asR_carry m (a.data.toList.drop (i + 1)) (b.data.toList.drop (i + 1))
      have hlz := HLN.out (i + 1)
      have HD := hide (asR_drop m a.data.toList b.data.toList (by have := HAB.out; simpa using this) i (by simpa using hia))
      have e1 : a.data.toList[i]'(by simpa using hia) = a[i] := rfl
      have e2 : b.data.toList[i]'(by simpa using hib) = b[i] := rfl
      rw [e1, e2] at HD
      generalize asR m (a.data.toList.drop (i + 1)) (b.data.toList.drop (i + 1)) = r at *
      obtain ⟨r1, r2⟩ := r
      dsimp only at *
      generalize nb a[i] = xa at *
      generalize nb b[i] = xb at *
      clear e1 e2
      have j1 : ((i + 1 : Nat) : Int) - 1 = (i : Int) := by omega
      rw [j1]
      clear j1
      have hxa : xa = 0 ∨ xa = 1 := by omega
      have hxb : xb = 0 ∨ xb = 1 := by omega
      have hr2 : r2 = 0 ∨ r2 = 1 := by omega
      have hz : (strB r1).size ≤ 1000 := by rw [strB_size]; exact hlz
      clear hlz
      clear hna hnb hcy
      rcases hxa with rfl | rfl
      all_goals
        rcases hxb with rfl | rfl
        all_goals
          rcases hr2 with rfl | rfl
          all_goals
            cases m
            all_goals
              go_upto_region 12 with (fail)
              go_quiet (fail)
              go_wp2_with fail
              go_roundw
              case rel => exact ⟨i, by omega, rfl, by rw [HD.out]; rfl, by rw [HD.out, HCON.out]; rfl, (below_drewN hbr nq).alloc hbr.size _⟩
              case measure => simp [intOf]

end Go.Proofs.YtdlebcijgdkfjaaGreatDoor
