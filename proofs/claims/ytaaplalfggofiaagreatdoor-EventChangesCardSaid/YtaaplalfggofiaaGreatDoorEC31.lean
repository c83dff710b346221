/-
  Several texts in one: EHz, ETimes, EvkP, EvsP, Few53. Each says at its head what it holds.
-/
import Derived.Test.YtaaplalfggofiaaGreatDoorEC20
import Derived.Test.YtaaplalfggofiaaGreatDoorEC26
import Derived.Test.YtaaplalfggofiaaGreatDoorEC29
import Derived.Test.YtaaplalfggofiaaGreatDoorEC30
import Derived.Test.YtaaplalfggofiaaGreatDoorEC17
import Derived.Test.YtaaplalfggofiaaGreatDoorEC16

/-
  qcheck.Horizon at a value and at an event of the kinds without conditions.
-/
namespace Go.Proofs.YtaaplalfggofiaaGreatDoor
open Go.RowKit

theorem widths_all : ∀ {l : List (Option (Int × Int))} {ws : List Int}, widthsF l = some ws → ∀ x ∈ l, ∃ q, x = some q
  | [], _, _, x, hx => by cases hx
  | none :: l, _, h, _, _ => by cases h
  | some (k, w) :: l, ws, h, x, hx => by
    rw [widthsF] at h
    by_cases hk : k = 0
    · rw [if_pos hk] at h
      cases hl : widthsF l with
      | none => rw [hl] at h; cases h
      | some vs =>
        rcases List.mem_cons.1 hx with rfl | hx
        · exact ⟨_, rfl⟩
        · exact widths_all hl x hx
    · rw [if_neg hk] at h; cases h
theorem typ_parts {kind at_ : Int} {name value : ByteArray} {a b c d : Int} {KA : Option Addr} {kc : Nat} {kids : List Nd} {p : Int × Int} (h : typeF (.mk kind at_ name value a b c d KA kc kids) = some p) : (1 ≤ kind ∧ kind ≤ 16) ∧ ∀ k ∈ kids, ∃ q, typeF k = some q := by
  rw [typeF_mk] at h
  have leaf : ∀ {x : Option (Int × Int)}, (if kids ≠ [] then none else x) = some p → ∀ k ∈ kids, ∃ q, typeF k = some q := fun h k hk => by
    by_cases hn : kids = []
    · rw [hn] at hk; cases hk
    · rw [if_pos hn] at h; cases h
  by_cases k1 : kind = 1
  · rw [if_pos k1] at h; exact ⟨by omega, leaf h⟩
  rw [if_neg k1] at h
  by_cases k2 : kind = 2
  · rw [if_pos k2] at h; exact ⟨by omega, leaf h⟩
  rw [if_neg k2] at h
  by_cases k4 : kind = 4
  · rw [if_pos k4] at h; exact ⟨by omega, leaf h⟩
  rw [if_neg k4] at h
  by_cases k5 : kind = 5
  · rw [if_pos k5] at h; exact ⟨by omega, leaf h⟩
  rw [if_neg k5] at h
  cases hw : widthsF (kids.map typeF) with
  | none => rw [hw] at h; cases h
  | some ws =>
    rw [hw] at h
    dsimp only at h
    by_cases hk : 1 ≤ kind ∧ kind ≤ 16
    · exact ⟨hk, fun k hm => widths_all hw _ (List.mem_map.2 ⟨k, hm, rfl⟩)⟩
    · rw [if_neg hk] at h; cases h
def HzRel (m : Nat) (w : World) (p f i : Value) (wr : World) : Prop := p = .int .i64 0 ∧ f = .int .i64 0 ∧ ∃ j : Nat, j ≤ m ∧ i = .int .i64 (j : Int) ∧ Below w.heap.size w wr
def HzC (o : Int) (n : Nd) : Prop := ∀ w : World, TreesAt w (Lo w.heap.size) n.KA n.kids → Calls Tryz.prog 27 #[.agg (cNd n).toArray] w (RetV (.tuple #[.int .i64 o, .int .i64 0]) w)

set_option maxRecDepth 100000 in
set_option maxHeartbeats 8000000 in
theorem hz_step (n : Nd) (o : Int) (hk : (1 ≤ n.kind ∧ n.kind ≤ 16 ∧ o = 0) ∨ (37 ≤ n.kind ∧ n.kind ≤ 41 ∧ o = 1)) (ih : ∀ k ∈ n.kids, HzC 0 k) : HzC o n := by
  intro w ht
  have IH := hide ih
  clear ih
  obtain ⟨kind, at_, name, value, a, b, c, d, KA, kc, kids⟩ := n
  unfold Nd.KA Nd.kids at ht
  dsimp only [Nd.kind, Nd.kids] at hk IH
  unfold cNd
  have hl := ht.len
  obtain ⟨W0, hW0⟩ : ∃ W0, w.alloc (.cells #[.int .i64 kind, .int .i64 at_, .string name, .string value, .int .i64 a, .int .i64 b, .int .i64 c, .int .i64 d, .slice KA kids.length kc] 28) = W0 := ⟨_, rfl⟩
  have g0 := new_at hW0
  have hb0 : Below w.heap.size w W0 := by rw [← hW0]; exact (Below.refl _ _).alloc (Nat.le_refl _) _
  have HT := hide (ht.grow hb0)
  have HG0 := hide g0
  have HB0 := hide hb0
  have HW0 := hide hW0
  obtain ⟨y0, y1, y2, y3, y4, y5, y6, y7, y8⟩ := box9 g0
  clear ht g0 hb0 hW0
  go_enter Tryz.func27, Tryz.ntmps27
  go_upto_region 1 with (fail)
  rw [HW0.out]
  go_upto_region 3 with (fail)
  go_loopw [4, 5, 13] (fun p f i wr => HzRel kids.length W0 p f i wr) (fun _ _ i _ => kids.length - (intOf i).toNat)
  case atStart => exact ⟨rfl, rfl, 0, Nat.zero_le _, rfl, Below.refl _ _⟩
  case round =>
    obtain ⟨V, rfl⟩ : ∃ w2 : World, w2 = wr := ⟨_, rfl⟩
    obtain ⟨rfl, rfl, j, hj, rfl, hbr⟩ := hrel
    have HBR := hide hbr
    clear hbr y0 y1 y2 y3 y4 y5 y6 y7 y8
    obtain ⟨y0, y1, y2, y3, y4, y5, y6, y7, y8⟩ := box9 ((HBR.out.block _ (box_lt HG0.out)).trans HG0.out)
    by_cases hlt : j < kids.length
    · have hT := HT.out.grow HBR.out
      obtain ⟨bk, ok, rfl, hbk, hc⟩ := hT.row.at_ hlt
      have hmem := List.getElem_mem hlt
      have hkid := hT.each _ hmem
      have hIH := IH.out _ hmem
      generalize kids[j] = q at *
      obtain ⟨W1, hW1⟩ : ∃ W1, V.alloc (.cells (cNd q).toArray 28) = W1 := ⟨_, rfl⟩
      have g1 := new_at hW1
      have hb1 : Below V.heap.size V W1 := by rw [← hW1]; exact (Below.refl _ _).alloc (Nat.le_refl _) _
      have hcall := hIH W1 (hkid.grow hb1)
      obtain ⟨m1, m2, m3, m4, m5, m6, m7, m8, mK, mc, ml⟩ := q
      unfold cNd at hc hcall hW1 g1
      obtain ⟨c0, c1, c2, c3, c4, c5, c6, c7, c8⟩ := nine hc
      have HCALL := hide hcall
      have HW1 := hide hW1
      have HB1 := hide (bstep HBR.out hb1)
      clear hc hkid hcall hW1 hb1 hmem hT hIH
      go_upto_region 5 with (fail)
      rw [HW1.out]
      clear HW1 c0 c1 c2 c3 c4 c5 c6 c7 c8
      obtain ⟨x0, x1, x2, x3, x4, x5, x6, x7, x8⟩ := box9 g1
      clear g1
      go_wp2_with (go_at_call 27; refine HCALL.out.mono ?_; rintro e w2 ⟨rfl, hb2⟩; have HB2 := hide (bstep HB1.out hb2); clear hb2)
      exact ⟨⟨rfl, rfl, j + 1, hlt, by go_num, HB2.out⟩, by simp [intOf]; omega⟩
    · have HR := hide (bstep HB0.out HBR.out)
      rcases hk with ⟨k1, k2, rfl⟩ | ⟨k1, k2, rfl⟩
      · have t1 : (kind == 31) = false := beq_eq_false_iff_ne.2 (by omega)
        have t2 : (kind == 32) = false := beq_eq_false_iff_ne.2 (by omega)
        have t3 : (kind == 33) = false := beq_eq_false_iff_ne.2 (by omega)
        have t4 : (kind == 34) = false := beq_eq_false_iff_ne.2 (by omega)
        have t5 : (kind == 35) = false := beq_eq_false_iff_ne.2 (by omega)
        have t6 : (kind == 36) = false := beq_eq_false_iff_ne.2 (by omega)
        have t7 : (kind == 37) = false := beq_eq_false_iff_ne.2 (by omega)
        have t8 : (kind == 38) = false := beq_eq_false_iff_ne.2 (by omega)
        have t9 : (kind == 39) = false := beq_eq_false_iff_ne.2 (by omega)
        have t10 : (kind == 40) = false := beq_eq_false_iff_ne.2 (by omega)
        have t11 : (kind == 41) = false := beq_eq_false_iff_ne.2 (by omega)
        have t12 : (kind == 43) = false := beq_eq_false_iff_ne.2 (by omega)
        have t13 : (kind == 45) = false := beq_eq_false_iff_ne.2 (by omega)
        have t14 : (kind == 46) = false := beq_eq_false_iff_ne.2 (by omega)
        have t15 : (kind == 47) = false := beq_eq_false_iff_ne.2 (by omega)
        clear k1 k2
        go_wp2_with fail
        go_ret2
        exact ⟨rfl, HR.out⟩
      · have hkk : kind = 37 ∨ kind = 38 ∨ kind = 39 ∨ kind = 40 ∨ kind = 41 := by omega
        clear k1 k2
        rcases hkk with rfl | rfl | rfl | rfl | rfl
        all_goals
          go_wp2_with fail
          go_ret2
          exact ⟨rfl, HR.out⟩
theorem hz_val (n : Nd) : (∃ p, typeF n = some p) → HzC 0 n := by
  induction n using Nd.ind with
  | h n ih =>
  rintro ⟨p, hp⟩
  obtain ⟨kind, at_, name, value, a, b, c, d, KA, kc, kids⟩ := n
  obtain ⟨h1, h2⟩ := typ_parts hp
  exact hz_step _ 0 (.inl ⟨h1.1, h1.2, rfl⟩) fun k hk => ih k hk (h2 k hk)
theorem hz_event (n : Nd) (hk : 37 ≤ n.kind ∧ n.kind ≤ 41) (h : ∀ k ∈ n.kids, ∃ p, typeF k = some p) : HzC 1 n := hz_step n 1 (.inr ⟨hk.1, hk.2, rfl⟩) fun k hm => hz_val k (h k hm)

end Go.Proofs.YtaaplalfggofiaaGreatDoor

/-
  event.Times at an event of the kinds without conditions, where all signals fit and the source has no limit.
-/
namespace Go.Proofs.YtaaplalfggofiaaGreatDoor
open Go.RowKit

set_option maxRecDepth 100000 in
set_option maxHeartbeats 8000000 in
theorem times_simple (v : Wv) (c : Int) (M : Nat) (kind at_ : Int) (name value : ByteArray) (a b c0 d : Int) (KA : Option Addr) (kc : Nat) (x : Nd) (f t : Int) (w : World) (h : SourceAt w M v (-1) c) (hv : SmallOk v) (ht : TreesAt w (Un M w.heap.size) KA [x]) (hok : okF (.mk kind at_ name value a b c0 d KA kc [x])) (hokx : okF x) (hf60 : FewOk 60 x)
    (h60 : nodesF (.mk kind at_ name value a b c0 d KA kc [x]) ≤ 60) (hev : ∀ y ∈ sigF (.mk kind at_ name value a b c0 d KA kc [x]), ∀ k e, agrF y k e (.mk kind at_ name value a b c0 d KA kc [x]) = true → k ≠ 3) (hfn : ∀ y ∈ sigF (.mk kind at_ name value a b c0 d KA kc [x]), sigE v (.mk kind at_ name value a b c0 d KA kc [x]) y = 0)
    (h0 : 0 ≤ c) (h1 : c ≤ 50000) (hp : ∃ p, typeF x = some p) (htyp : typB (typeF x) (if kind = 41 then 0 else 1) = true) (hfit : ∀ y ∈ sigF x, sigE v x y = 0) (hk : 37 ≤ kind ∧ kind ≤ 41) (hf : 0 ≤ f) (hft : f ≤ t) (htf : t ≤ v.fin) :
    Calls Tryz.prog 32 #[srcV M, .agg #[.int .i64 kind, .int .i64 at_, .string name, .string value, .int .i64 a, .int .i64 b, .int .i64 c0, .int .i64 d, .slice KA 1 kc], .int .i64 f, .int .i64 t] w (EcPost v x kind f t M w) := by
  have hM := h.lt
  have hfin := hv.fin.2
  obtain ⟨W0, hW0⟩ : ∃ W0, w.alloc (.cells #[.int .i64 kind, .int .i64 at_, .string name, .string value, .int .i64 a, .int .i64 b, .int .i64 c0, .int .i64 d, .slice KA 1 kc] 28) = W0 := ⟨_, rfl⟩
  have g0 := new_at hW0
  have hb0 : Below w.heap.size w W0 := by rw [← hW0]; exact (Below.refl _ _).alloc (Nat.le_refl _) _
  have hl0 := box_lt g0
  have HY := hide (fun (W : World) (hb : W.heap[w.heap.size]? = W0.heap[w.heap.size]?) => box9 (hb.trans g0))
  have HEND := hide (fun (W : World) (c' : Int) (hs : SrcTo w M v (-1) c' W) => end_any M v (-1) c' W hs.1)
  have HIE := hide (fun (W : World) (c' : Int) (hs : SrcTo w M v (-1) c' W) => isev_simple kind at_ name value a b c0 d KA kc x W ((tree_src ht hs).more fun _ => un_lo) hk)
  rw [htyp] at HIE
  have HHZ := hide (fun (W : World) (c' : Int) (hs : SrcTo w M v (-1) c' W) => hz_event (.mk kind at_ name value a b c0 d KA kc [x]) hk (fun k hm => by simp [Nd.kids] at hm; subst hm; exact hp) W ((tree_src ht hs).more fun _ => un_lo))
  have HRD := hide (fun (p q : Int) (hp : 0 ≤ p) (hq : p ≤ q) (hr : q ≤ v.fin) (W : World) (hs : SrcTo w M v (-1) c W) => eread_ok v c M (.mk kind at_ name value a b c0 d KA kc [x]) p q W hs.1 hv (tree_src ht hs) hok h60 hev h0 h1 hp hq hr hfn)
  have HFD := hide (fun (W : World) (c' : Int) (hs : SrcTo w M v (-1) c' W) (q0 : 0 ≤ c') (q1 : c' ≤ 100000) => find_simple v c' M kind at_ name value a b c0 d KA kc x f t W hs.1 hv (tree_src ht hs) hokx hf60 q0 q1 hp hfit hk hf hft htf)
  have HS0 := hide (SrcTo.start h hb0)
  have HW0 := hide hW0
  have HB0 := hide hb0
  clear hW0 g0 ht h hok hokx hf60 h60 hev hfn hp htyp hfit hk
  unfold cNd at HHZ HRD
  dsimp only at HHZ HRD
  unfold srcV at HRD HFD ⊢
  have hm := meth_end (some ⟨M, 0, none⟩)
  have hw1 : IntKind.i64.wrap (f - 1) = f - 1 := by rw [IntWalk.i64_in _ (by omega)]
  have hw2 : IntKind.i64.wrap t = t := by rw [IntWalk.i64_in _ (by omega)]
  have T1 : decide (f < 0) = false := decide_eq_false (by omega)
  have T2 : decide (t < f) = false := decide_eq_false (by omega)
  have T3 : decide (v.fin < t) = false := decide_eq_false (by omega)
  go_enter Tryz.func32, Tryz.ntmps32
  go_upto_region 1 with (fail)
  rw [HW0.out]
  go_upto_region 3 with (go_at_call 405; refine (HEND.out W0 _ HS0.out).mono ?_; rintro e w1 ⟨rfl, rfl⟩)
  obtain ⟨y0, y1, y2, y3, y4, y5, y6, y7, y8⟩ := HY.out W0 rfl
  go_upto_region 5 with (go_at_call 78; refine (HIE.out W0 _ HS0.out).mono ?_; rintro e w2 ⟨rfl, hb2⟩; have HB2 := hide hb2; clear hb2)
  clear y0 y1 y2 y3 y4 y5 y6 y7 y8
  have HS2 := hide (HS0.out.below HB2.out)
  obtain ⟨y0, y1, y2, y3, y4, y5, y6, y7, y8⟩ := HY.out w2 (HB2.out.block _ hl0)
  go_upto_region 6 with (go_at_call 27; refine (HHZ.out w2 _ HS2.out).mono ?_; rintro e w3 ⟨rfl, hb3⟩; have HB3 := hide (bstep HB2.out hb3); have HS3 := hide (HS2.out.below hb3); clear hb3)
  clear y0 y1 y2 y3 y4 y5 y6 y7 y8
  obtain ⟨y0, y1, y2, y3, y4, y5, y6, y7, y8⟩ := HY.out w3 (HB3.out.block _ hl0)
  have HSD := hide (HS3.out.below (below_drew (Below.refl _ _)))
  go_region_law
    (first
      | (go_simp
         go_at_call 405
         refine (HEND.out w3.drew _ HSD.out).mono ?_
         rintro e w4 ⟨rfl, rfl⟩)
      | (go_simp
         go_at_call 79
         refine (HRD.out _ _ (by omega) (by omega) (by omega) _ HSD.out).mono ?_
         rintro e w5 ⟨rfl, c5, q0, q1, hs5⟩
         have HS5 := hide (HSD.out.trans hs5)
         have HN5 := hide (HY.out w5 ((hs5.2.block _ (by have := HB3.out.size; have : w3.drew.heap.size = w3.heap.size := rfl; omega) (fun e => by injection e with e; omega)).trans (HB3.out.block _ hl0)))
         clear hs5)
      | fail)
  all_goals
    clear y0 y1 y2 y3 y4 y5 y6 y7 y8
    obtain ⟨y0, y1, y2, y3, y4, y5, y6, y7, y8⟩ := HN5.out
    go_wp2_with fail
    refine (HFD.out w5 _ HS5.out q0 (by omega)).mono ?_
    rintro e w6 ⟨l, B, cb, e1, e2, rfl, e3, c', e4⟩
    have hzl := chgT_len kind f l (l.length - 1)
    have HE1 := hide (show EcPost v x kind f t M w (.returned (.tuple #[.slice B (chgT kind f l (l.length - 1)).length cb, .int .i64 0])) w6 from ⟨l, B, cb, e1, e2, rfl, e3.lower HS5.out.2.size, c', HS5.out.trans e4⟩)
    have T9 : decide ((4096 : Int) < ((chgT kind f l (l.length - 1)).length : Int)) = false := decide_eq_false (by omega)
    clear e1 e3 e4
    go_wp2_with fail
    go_ret2
    exact HE1.out

end Go.Proofs.YtaaplalfggofiaaGreatDoor

/-
  The event nodes over a value that the laws make, and that a value has no names of events. Plain.
-/
namespace Go.Proofs.YtaaplalfggofiaaGreatDoor
open Go.RowKit

theorem typ_ev (n : Nd) : (∃ p, typeF n = some p) → ∀ y ∈ sigF n, ∀ k e, agrF y k e n = true → k ≠ 3 := by
  induction n using Nd.ind with
  | h n ih =>
  intro ⟨p, hp⟩ y hy k e ha
  obtain ⟨kind, at_, name, value, a, b, c, d, KA, kc, kids⟩ := n
  obtain ⟨hk, hkids⟩ := typ_parts hp
  rw [agrF_mk, Bool.and_eq_true] at ha
  obtain ⟨h1, h2⟩ := ha
  rw [sigF_eq] at hy
  dsimp only [Nd.kids] at ih
  rcases List.mem_append.1 (show y ∈ (if kind = 1 then [a] else []) ++ (kids.map sigF).flatten from hy) with h | h
  · by_cases k1 : kind = 1
    · rw [if_pos k1] at h
      have hya : y = a := by simpa using h
      subst hya
      rw [typeF_mk, if_pos k1] at hp
      have hc : c = 0 ∨ c = 1 ∨ c = 2 := by
        split at hp
        · cases hp
        · split at hp
          · rename_i q; obtain ⟨q1, _⟩ := q; omega
          · split at hp
            · rename_i q; exact .inl q.1
            · cases hp
      have hck : c = k := by
        by_cases e1 : c = k
        · exact e1
        · simp [k1, e1] at h1
      omega
    · rw [if_neg k1] at h; cases h
  · obtain ⟨l, hl, hyl⟩ := List.mem_flatten.1 h
    obtain ⟨q, hq, rfl⟩ := List.mem_map.1 hl
    exact ih q hq (hkids q hq) y hyl k e (List.all_eq_true.1 h2 q hq)
def evK (kind : Int) (KA : Option Addr) (kc : Nat) (n : Nd) : Nd := .mk kind 0 ⟨#[]⟩ ⟨#[]⟩ 0 0 0 0 KA kc [n]
section
variable {kind : Int} (hk : 37 ≤ kind ∧ kind ≤ 41) (KA : Option Addr) (kc : Nat) (n : Nd)
include hk
theorem evk_sigs : sigF (evK kind KA kc n) = sigF n := by
  have hn : ¬ (evK kind KA kc n).kind = 1 := by show ¬ kind = 1; omega
  have hm : (evK kind KA kc n).kids.map sigF = [sigF n] := rfl
  rw [sigF_eq, hm]
  unfold sigB
  rw [if_neg hn]
  simp
theorem evk_agr (x k w : Int) : agrF x k w (evK kind KA kc n) = agrF x k w n := by
  unfold evK
  rw [agrF_mk, decide_eq_false (show ¬ kind = 1 by omega)]
  simp
theorem evk_ok (h : okF n) : okF (evK kind KA kc n) := by
  rw [okF_eq]
  refine ⟨?_, fun k hm => ?_⟩
  · simp only [evK, Nd.kind, Nd.a, Nd.b, Nd.c, Nd.d, I64]
    omega
  · simp only [evK, Nd.kids, List.mem_singleton] at hm
    subst hm
    exact h
omit hk in
theorem evk_nodes : nodesF (evK kind KA kc n) = 1 + nodesF n := by
  rw [nodesF_eq]
  show 1 + sumF [nodesF n] = _
  rw [show sumF [nodesF n] = nodesF n from by simp [sumF]]
theorem evk_fit {v : Wv} (h : ∀ y ∈ sigF n, sigE v n y = 0) : ∀ y ∈ sigF (evK kind KA kc n), sigE v (evK kind KA kc n) y = 0 := by
  intro y hy
  rw [evk_sigs hk] at hy
  have := h y hy
  unfold sigE at this ⊢
  rw [evk_agr hk]
  exact this
theorem evk_nev (hp : ∃ p, typeF n = some p) : ∀ y ∈ sigF (evK kind KA kc n), ∀ k e, agrF y k e (evK kind KA kc n) = true → k ≠ 3 := by
  intro y hy k e h
  rw [evk_sigs hk] at hy
  rw [evk_agr hk] at h
  exact typ_ev n hp y hy k e h
end

end Go.Proofs.YtaaplalfggofiaaGreatDoor

/-
  The events among the changes of a value: where the spans begin. Plain.
-/
namespace Go.Proofs.YtaaplalfggofiaaGreatDoor
open Go.RowKit

def evs (kind f : Int) : List Spn → List Int
  | x :: y :: r => chg1 kind f x y ++ evs kind f (y :: r)
  | _ => []
theorem chgT_cons (kind f : Int) (x : Spn) (l : List Spn) : ∀ j, chgT kind f (x :: l) (j + 1) = (match l[0]? with | some y => chg1 kind f x y | none => []) ++ chgT kind f l j
  | 0 => by
    cases l with
    | nil => rfl
    | cons y r => show [] ++ chg1 kind f x y = chg1 kind f x y ++ []; simp
  | j + 1 => by
    rw [chgT, chgT_cons kind f x l j, List.append_assoc]
    rfl
theorem chgT_evs (kind f : Int) : ∀ l : List Spn, chgT kind f l (l.length - 1) = evs kind f l
  | [] => rfl
  | [x] => rfl
  | x :: y :: r => by
    show chgT kind f (x :: y :: r) (r.length + 1) = chg1 kind f x y ++ evs kind f (y :: r)
    rw [chgT_cons, ← chgT_evs kind f (y :: r)]
    rfl
theorem evs_len (kind f : Int) (l : List Spn) : (evs kind f l).length ≤ l.length - 1 := by rw [← chgT_evs]; exact chgT_len kind f l _
section
variable {g : Int → ByteArray} {a b f : Int} {l m : List Spn} {kind : Int}
theorem ne_bytes {x y : ByteArray} : (x.toList != y.toList) = true ↔ x ≠ y := by
  rw [bne_iff_ne, ByteArray.toList_eq, ByteArray.toList_eq]
  exact ⟨fun h e => h (by rw [e]), fun h e => h (ByteArray.ext (Array.toList_inj.1 e))⟩
theorem isEv41 (x y : ByteArray) : isEv 41 x y = (x.toList != y.toList) := by
  unfold isEv
  simp
theorem Spans.tail_lt (hs : Spans g a b l) : ∀ u ∈ l.tail.map Spn.f, a < u := by
  intro u hu
  obtain ⟨x, hx, rfl⟩ := List.mem_map.1 hu
  cases l with
  | nil => cases hx
  | cons y r =>
    cases r with
    | nil => cases hx
    | cons z r =>
      obtain ⟨h1, h2, h3, h4, h5⟩ := hs
      have := (h5.mem hx).1
      omega
theorem evs_change (hs : Spans g a b l) (hf : f ≤ a + 1) : evs 41 f l = l.tail.map Spn.f := by
  induction l generalizing a with
  | nil => rfl
  | cons x l ih =>
    cases l with
    | nil => rfl
    | cons y l =>
      obtain ⟨h1, h2, h3, h4, h5⟩ := hs
      have hy := h5.head.1
      have he : chg1 41 f x y = [y.f] := by
        unfold chg1
        rw [if_pos ⟨by omega, by rw [isEv41]; exact ne_bytes.2 h4⟩]
      show chg1 41 f x y ++ evs 41 f (y :: l) = y.f :: l.map Spn.f
      rw [he, ih h5 (by omega)]
      rfl
theorem evs_mem (hs : Spans g a b l) (u : Int) : u ∈ evs kind f l ↔ u ∈ l.tail.map Spn.f ∧ f ≤ u ∧ isEv kind (g (u - 1)) (g u) = true := by
  induction l generalizing a with
  | nil => exact hs.elim
  | cons x l ih =>
    cases l with
    | nil => simp [evs]
    | cons y l =>
      obtain ⟨h1, h2, h3, h4, h5⟩ := hs
      have hy := h5.head
      have hx : g (y.f - 1) = x.v := h3 _ (by omega) (by omega)
      have hv : g y.f = y.v := by rw [hy.1]; exact hy.2.2.1
      have hi := ih h5
      have hlt := h5.tail_lt
      show u ∈ chg1 kind f x y ++ evs kind f (y :: l) ↔ u ∈ y.f :: l.map Spn.f ∧ _
      rw [List.mem_append, hi, List.mem_cons]
      have hc : u ∈ chg1 kind f x y ↔ u = y.f ∧ f ≤ u ∧ isEv kind (g (u - 1)) (g u) = true := by
        unfold chg1
        by_cases h : f ≤ y.f ∧ isEv kind x.v y.v = true
        · rw [if_pos h, List.mem_singleton]
          exact ⟨fun e => by subst e; rw [hx, hv]; exact ⟨rfl, h⟩, fun e => e.1⟩
        · rw [if_neg h]
          refine ⟨fun e => (by cases e), fun e => ?_⟩
          obtain ⟨rfl, e⟩ := e
          rw [hx, hv] at e
          exact absurd e h
      rw [hc]
      show (u = y.f ∧ _) ∨ (u ∈ l.map Spn.f ∧ _) ↔ _
      exact or_and_right.symm
theorem evs_sub {k k' : Int} (hs : Spans g a b l) (h : ∀ x y, isEv k x y = true → isEv k' x y = true) (u : Int) (hu : u ∈ evs k f l) : u ∈ evs k' f l := by
  obtain ⟨h1, h2, h3⟩ := (evs_mem hs u).1 hu
  exact (evs_mem hs u).2 ⟨h1, h2, h _ _ h3⟩
theorem evs_not {k k' : Int} (hs : Spans g a b l) (h : ∀ x y, isEv k x y = true → isEv k' x y = false) (u : Int) (hu : u ∈ evs k f l) : u ∉ evs k' f l := by
  obtain ⟨h1, h2, h3⟩ := (evs_mem hs u).1 hu
  intro hv
  have := ((evs_mem hs u).1 hv).2.2
  rw [h _ _ h3] at this
  cases this
theorem isEv_facts (x y : ByteArray) : (isEv 37 x y = true → isEv 39 x y = true) ∧ (isEv 37 x y = true → isEv 38 x y = false) ∧ (isEv 39 x y = true → isEv 41 x y = true) ∧ (isEv 39 x y = true → isEv 40 x y = false) := by
  have hn : isEv 39 x y = true → x ≠ y := by
    rintro h rfl
    unfold isEv unkB at h
    rcases str_cls x with rfl | rfl | rfl | rfl | ⟨-, h1, h2, h3, h4⟩
    · simp [eq1_lit] at h
    · simp [eq1_lit] at h
    · simp [eq1_lit] at h
    · simp [eq1_lit] at h
    · simp [h1, h2, h3, h4] at h
  refine ⟨fun h => ?_, fun h => ?_, fun h => by rw [isEv41]; exact ne_bytes.2 (hn h), fun h => ?_⟩
  all_goals
    unfold isEv unkB at h ⊢
    rcases str_cls x with rfl | rfl | rfl | rfl | ⟨-, h1, h2, h3, h4⟩
    all_goals
      rcases str_cls y with rfl | rfl | rfl | rfl | ⟨-, k1, k2, k3, k4⟩
      all_goals first | (simp [eq1_lit] at h ⊢; done) | (simp [eq1_lit] at h; done) | (simp [eq1_lit, *] at h; done) | (simp [eq1_lit, *]; done) | simp_all [eq1_lit]
/-- the spans from one tick before -/
theorem spans_before {x : Spn} {r : List Spn} (hs : Spans g a b (x :: r)) (hm : Spans g (a - 1) b m) : m.tail.map Spn.f = (if g (a - 1) = x.v then [] else [a]) ++ r.map Spn.f := by
  by_cases h : g (a - 1) = x.v
  · rw [if_pos h]
    have : Spans g (a - 1) b (⟨a - 1, x.t, x.v⟩ :: r) := by
      have hh := hs.head
      cases r with
      | nil =>
        obtain ⟨h1, h2, h3, h4⟩ := hs
        refine ⟨rfl, h2, by omega, fun t h5 h6 => ?_⟩
        by_cases e : t = a - 1
        · rw [e]; exact h
        · exact h4 t (by omega) h6
      | cons y r =>
        obtain ⟨h1, h2, h3, h4, h5⟩ := hs
        refine ⟨rfl, by show a - 1 ≤ x.t; omega, fun t h6 h7 => ?_, h4, h5⟩
        by_cases e : t = a - 1
        · rw [e]; exact h
        · exact h3 t (by omega) h7
    rw [hm.uniq this]
    rfl
  · rw [if_neg h]
    have : Spans g (a - 1) b (⟨a - 1, a - 1, g (a - 1)⟩ :: x :: r) := by
      refine ⟨rfl, Int.le_refl _, fun t h5 h6 => ?_, h, ?_⟩
      · have : t = a - 1 := by simp only at h6; omega
        rw [this]
      · show Spans g (a - 1 + 1) b (x :: r)
        rw [Int.sub_add_cancel]
        exact hs
    rw [hm.uniq this]
    show x.f :: r.map Spn.f = _
    rw [hs.head.1]
    rfl
/-- the starts that the law collects -/
def startL (g : Int → ByteArray) (f : Int) : List Spn → List Int
  | [] => []
  | x :: r => (if 1 ≤ f ∧ g (f - 1) ≠ x.v then [f] else []) ++ r.map Spn.f
theorem start_evs (hf : 0 ≤ f) (hs : Spans g f b l) (hm : Spans g (max (f - 1) 0) b m) : startL g f l = evs 41 f m := by
  cases l with
  | nil => exact hs.elim
  | cons x r =>
    show (if 1 ≤ f ∧ g (f - 1) ≠ x.v then [f] else []) ++ r.map Spn.f = _
    by_cases h : 1 ≤ f
    · rw [show max (f - 1) 0 = f - 1 by omega] at hm
      rw [evs_change hm (by omega), spans_before hs hm]
      by_cases e : g (f - 1) = x.v
      · rw [if_pos e, if_neg (fun h => h.2 e)]
      · rw [if_neg e, if_pos ⟨h, e⟩]
    · have e : f = 0 := by omega
      subst e
      rw [show max ((0 : Int) - 1) 0 = 0 by omega] at hm
      rw [evs_change hm (by omega), hm.uniq hs, if_neg (fun h => by omega)]
      rfl
end

end Go.Proofs.YtaaplalfggofiaaGreatDoor

/-
  wavestorelaw53.few: the wave and the tree are small.
-/
namespace Go.Proofs.YtaaplalfggofiaaGreatDoor
open Go.RowKit

def FwOk (v : Wv) (n : Nd) : Prop := SmallOk v ∧ v.fin ≤ 64 ∧ FewOk 40 n
def Few53Post (v : Wv) (n : Nd) (w : World) (e : Ending) (w' : World) : Prop := ∃ b : Bool, e = .returned (.bool b) ∧ (b = true → FwOk v n) ∧ Below w.heap.size w w'
theorem SigsAt.grow {w w' : World} {A : Option Addr} {l : List Sgn} (h : SigsAt w (Lo w.heap.size) A l) (hb : Below w.heap.size w w') : SigsAt w' (Lo w'.heap.size) A l := ⟨h.row.grow hb, fun s hs => (h.each s hs).grow hb⟩
theorem few_mono {p q : Nat} (hpq : p ≤ q) (n : Nd) : FewOk p n → FewOk q n := by
  induction n using Nd.ind with
  | h n ih =>
  intro h
  obtain ⟨h1, h2, h3, h4⟩ := (FewOk_eq p n).1 h
  exact (FewOk_eq q n).2 ⟨h1, h2, by omega, fun k hk => ih k hk (h4 k hk)⟩

set_option maxRecDepth 100000 in
set_option maxHeartbeats 4000000 in
theorem few53_any (v : Wv) (gs : List (Int × Int)) (n : Nd) (w : World) (hS : SigsAt w (Lo w.heap.size) v.A v.sigs) (hG : Row w (Lo w.heap.size) 2 cGp v.G gs) (hgn : v.gn = gs.length) (hsz : ∀ s ∈ v.sigs, ∀ c ∈ s.chs, c.val.size ≤ 9223372036854775807) (ht : TreesAt w (Lo w.heap.size) n.KA n.kids) :
    Calls Tryz.prog 30 #[.agg (cWv v).toArray, .agg (cNd n).toArray] w (Few53Post v n w) := by
  have HSM := hide (fun (W : World) (hb : Below w.heap.size w W) => small_any v gs W (hS.grow hb) (hG.grow hb) hgn hsz)
  have HFW := hide (fun (W : World) (hb : Below w.heap.size w W) => few49_any 40 (by decide) n W (ht.grow hb))
  have HCL := hide (fun (W : World) (hb : Below w.heap.size w W) (h : FewOk 40 n) => clean_any n W (ht.grow hb) (few_mono (by decide) n h))
  have HE := hide (fun (o : Bool) (wr : World) (h : o = true → FwOk v n) (hb : Below w.heap.size w wr) => show Few53Post v n w (.returned (.bool o)) wr from ⟨o, rfl, h, hb⟩)
  clear hS hG hgn hsz ht
  obtain ⟨A, cA, sigs, G, gn, cG, fin⟩ := v
  obtain ⟨kind, at_, name, value, a, b, c, d, KA, kc, kids⟩ := n
  unfold cWv cNd at *
  dsimp only at *
  generalize hvv : Wv.mk A cA sigs G gn cG fin = v at *
  generalize hnn : Nd.mk kind at_ name value a b c d KA kc kids = n at *
  have HFV := hide (show v.fin = fin by rw [← hvv])
  clear hvv hnn
  obtain ⟨W0, hW0⟩ : ∃ W0, (w.alloc (.cells #[.slice A sigs.length cA, .slice G gn cG, .int .i64 fin] 25)).alloc (.cells #[.int .i64 kind, .int .i64 at_, .string name, .string value, .int .i64 a, .int .i64 b, .int .i64 c, .int .i64 d, .slice KA kids.length kc] 28) = W0 := ⟨_, rfl⟩
  obtain ⟨p0, p1, hb0⟩ := chain2 _ _ _ hW0
  have HB0 := hide hb0
  have HG0 := hide p0
  have HG1 := hide p1
  have hl0 := box_lt p0
  have hl1 := box_lt p1
  have c0 := cell_of_row W0 w.heap.size 0 _ _ (0, 0) p0
  have c1 := cell_of_row W0 w.heap.size 1 _ _ (0, 0) p0
  have c2 := cell_of_row W0 w.heap.size 2 _ _ (0, 0) p0
  simp only [List.getElem?_toArray, List.getElem?_cons_zero, List.getElem?_cons_succ] at c0 c1 c2
  have HW0 := hide hW0
  clear hW0 p0 p1 hb0
  go_enter Tryz.func30, Tryz.ntmps30
  go_upto_region 1 with (fail)
  rw [HW0.out]
  go_wp2_with fail
  refine (HSM.out W0 HB0.out).mono ?_
  rintro e w1 ⟨b1, rfl, hs1, hb1⟩
  have HS1 := hide hs1
  have HB1 := hide (bstep HB0.out hb1)
  obtain ⟨y0, y1, y2, y3, y4, y5, y6, y7, y8⟩ := box9 ((hb1.block _ hl1).trans HG1.out)
  have HG11 := hide ((hb1.block _ hl1).trans HG1.out)
  have c2' := cell_of_row w1 w.heap.size 2 _ _ (0, 0) ((hb1.block _ hl0).trans HG0.out)
  simp only [List.getElem?_toArray, List.getElem?_cons_zero, List.getElem?_cons_succ] at c2'
  have hl11 := box_lt ((hb1.block _ hl1).trans HG1.out)
  clear hs1 hb1 c0 c1 c2
  cases b1 with
  | false =>
    go_wp2_with fail
    go_ret
    exact HE.out false _ (fun h => by cases h) HB1.out
  | true =>
    by_cases h64 : fin ≤ 64
    case neg =>
      have T64 : decide (fin ≤ 64) = false := decide_eq_false h64
      clear h64
      go_wp2_with fail
      go_ret
      exact HE.out false _ (fun h => by cases h) HB1.out
    have T64 : decide (fin ≤ 64) = true := decide_eq_true h64
    have H64 := hide (show v.fin ≤ 64 by rw [HFV.out]; exact h64)
    clear h64
    go_wp2_with fail
    refine (HFW.out w1 HB1.out).mono ?_
    rintro e w2 ⟨b2, rfl, hs2, hb2⟩
    have HB2 := hide (bstep HB1.out hb2)
    clear c2' y0 y1 y2 y3 y4 y5 y6 y7 y8
    obtain ⟨y0, y1, y2, y3, y4, y5, y6, y7, y8⟩ := box9 ((hb2.block _ hl11).trans HG11.out)
    have HS2 := hide hs2
    clear hs2 hb2
    cases b2 with
    | false =>
      go_wp2_with fail
      go_ret
      exact HE.out false _ (fun h => by cases h) HB2.out
    | true =>
      have HCX := hide (HCL.out w2 HB2.out (HS2.out rfl))
      go_wp2_with fail
      refine HCX.out.mono ?_
      rintro e w3 ⟨b3, rfl, hb3⟩
      have HB3 := hide (bstep HB2.out hb3)
      clear hb3 y0 y1 y2 y3 y4 y5 y6 y7 y8
      go_wp2_with fail
      go_ret
      exact HE.out b3 _ (fun _ => ⟨HS1.out (by first | trivial | rfl), H64.out, HS2.out (by first | trivial | rfl)⟩) HB3.out

end Go.Proofs.YtaaplalfggofiaaGreatDoor
