/-
  Several texts in one: EHz, ETimes, EAwP, EAwake, LiftSamples. Each says at its head what it holds.
-/
import Derived.Test.YtbhcmnfeeogdhaaGreatDoorES14
import Derived.Test.YtbhcmnfeeogdhaaGreatDoorES21
import Derived.Test.YtbhcmnfeeogdhaaGreatDoorES25
import Derived.Test.YtbhcmnfeeogdhaaGreatDoorES23
import Derived.Test.YtbhcmnfeeogdhaaGreatDoorES24
import Derived.Test.YtbhcmnfeeogdhaaGreatDoorES15

/-
  qcheck.Horizon at a value and at an event of the kinds without conditions.
-/
namespace Go.Proofs.YtbhcmnfeeogdhaaGreatDoor
open Go.RowKit

theorem widths_all : ∀ {l : List (Option (Int × Int))} {ws : List Int}, widthsF l = some ws → ∀ x ∈ l, ∃ q, x = some q
  | [], _, _, x, hx => by cases hx
  | none :: l, _, h, _, _ => by cases h
  | some (k, w) :: l, ws, h, x, hx => by
    rw [widthsF] at h
    by_cases hk : k = 0
    · rw [if_pos hk] at h
      cases hl : widthsF l with
      | none => rw [hl] at h; cases h
      | some vs =>
        rcases List.mem_cons.1 hx with rfl | hx
        · exact ⟨_, rfl⟩
        · exact widths_all hl x hx
    · rw [if_neg hk] at h; cases h
theorem typ_parts {kind at_ : Int} {name value : ByteArray} {a b c d : Int} {KA : Option Addr} {kc : Nat} {kids : List Nd} {p : Int × Int} (h : typeF (.mk kind at_ name value a b c d KA kc kids) = some p) : (1 ≤ kind ∧ kind ≤ 16) ∧ ∀ k ∈ kids, ∃ q, typeF k = some q := by
  rw [typeF_mk] at h
  have leaf : ∀ {x : Option (Int × Int)}, (if kids ≠ [] then none else x) = some p → ∀ k ∈ kids, ∃ q, typeF k = some q := fun h k hk => by
    by_cases hn : kids = []
    · rw [hn] at hk; cases hk
    · rw [if_pos hn] at h; cases h
  by_cases k1 : kind = 1
  · rw [if_pos k1] at h; exact ⟨by omega, leaf h⟩
  rw [if_neg k1] at h
  by_cases k2 : kind = 2
  · rw [if_pos k2] at h; exact ⟨by omega, leaf h⟩
  rw [if_neg k2] at h
  by_cases k4 : kind = 4
  · rw [if_pos k4] at h; exact ⟨by omega, leaf h⟩
  rw [if_neg k4] at h
  by_cases k5 : kind = 5
  · rw [if_pos k5] at h; exact ⟨by omega, leaf h⟩
  rw [if_neg k5] at h
  cases hw : widthsF (kids.map typeF) with
  | none => rw [hw] at h; cases h
  | some ws =>
    rw [hw] at h
    dsimp only at h
    by_cases hk : 1 ≤ kind ∧ kind ≤ 16
    · exact ⟨hk, fun k hm => widths_all hw _ (List.mem_map.2 ⟨k, hm, rfl⟩)⟩
    · rw [if_neg hk] at h; cases h
def HzRel (m : Nat) (w : World) (p f i : Value) (wr : World) : Prop := p = .int .i64 0 ∧ f = .int .i64 0 ∧ ∃ j : Nat, j ≤ m ∧ i = .int .i64 (j : Int) ∧ Below w.heap.size w wr
def HzC (o : Int) (n : Nd) : Prop := ∀ w : World, TreesAt w (Lo w.heap.size) n.KA n.kids → Calls Tryz.prog 31 #[.agg (cNd n).toArray] w (RetV (.tuple #[.int .i64 o, .int .i64 0]) w)

set_option maxRecDepth 100000 in
set_option maxHeartbeats 8000000 in
theorem hz_step (n : Nd) (o : Int) (hk : (1 ≤ n.kind ∧ n.kind ≤ 16 ∧ o = 0) ∨ (37 ≤ n.kind ∧ n.kind ≤ 41 ∧ o = 1)) (ih : ∀ k ∈ n.kids, HzC 0 k) : HzC o n := by
  intro w ht
  have IH := hide ih
  clear ih
  obtain ⟨kind, at_, name, value, a, b, c, d, KA, kc, kids⟩ := n
  unfold Nd.KA Nd.kids at ht
  dsimp only [Nd.kind, Nd.kids] at hk IH
  unfold cNd
  have hl := ht.len
  obtain ⟨W0, hW0⟩ : ∃ W0, w.alloc (.cells #[.int .i64 kind, .int .i64 at_, .string name, .string value, .int .i64 a, .int .i64 b, .int .i64 c, .int .i64 d, .slice KA kids.length kc] 30) = W0 := ⟨_, rfl⟩
  have g0 := new_at hW0
  have hb0 : Below w.heap.size w W0 := by rw [← hW0]; exact (Below.refl _ _).alloc (Nat.le_refl _) _
  have HT := hide (ht.grow hb0)
  have HG0 := hide g0
  have HB0 := hide hb0
  have HW0 := hide hW0
  obtain ⟨y0, y1, y2, y3, y4, y5, y6, y7, y8⟩ := box9 g0
  clear ht g0 hb0 hW0
  go_enter Tryz.func31, Tryz.ntmps31
  go_upto_region 1 with (fail)
  rw [HW0.out]
  go_upto_region 3 with (fail)
  go_loopw [4, 5, 13] (fun p f i wr => HzRel kids.length W0 p f i wr) (fun _ _ i _ => kids.length - (intOf i).toNat)
  case atStart => exact ⟨rfl, rfl, 0, Nat.zero_le _, rfl, Below.refl _ _⟩
  case round =>
    obtain ⟨V, rfl⟩ : ∃ w2 : World, w2 = wr := ⟨_, rfl⟩
    obtain ⟨rfl, rfl, j, hj, rfl, hbr⟩ := hrel
    have HBR := hide hbr
    clear hbr y0 y1 y2 y3 y4 y5 y6 y7 y8
    obtain ⟨y0, y1, y2, y3, y4, y5, y6, y7, y8⟩ := box9 ((HBR.out.block _ (box_lt HG0.out)).trans HG0.out)
    by_cases hlt : j < kids.length
    · have hT := HT.out.grow HBR.out
      obtain ⟨bk, ok, rfl, hbk, hc⟩ := hT.row.at_ hlt
      have hmem := List.getElem_mem hlt
      have hkid := hT.each _ hmem
      have hIH := IH.out _ hmem
      generalize kids[j] = q at *
      obtain ⟨W1, hW1⟩ : ∃ W1, V.alloc (.cells (cNd q).toArray 30) = W1 := ⟨_, rfl⟩
      have g1 := new_at hW1
      have hb1 : Below V.heap.size V W1 := by rw [← hW1]; exact (Below.refl _ _).alloc (Nat.le_refl _) _
      have hcall := hIH W1 (hkid.grow hb1)
      obtain ⟨m1, m2, m3, m4, m5, m6, m7, m8, mK, mc, ml⟩ := q
      unfold cNd at hc hcall hW1 g1
      obtain ⟨c0, c1, c2, c3, c4, c5, c6, c7, c8⟩ := nine hc
      have HCALL := hide hcall
      have HW1 := hide hW1
      have HB1 := hide (bstep HBR.out hb1)
      clear hc hkid hcall hW1 hb1 hmem hT hIH
      go_upto_region 5 with (fail)
      rw [HW1.out]
      clear HW1 c0 c1 c2 c3 c4 c5 c6 c7 c8
      obtain ⟨x0, x1, x2, x3, x4, x5, x6, x7, x8⟩ := box9 g1
      clear g1
      go_wp2_with (go_at_call 31; refine HCALL.out.mono ?_; rintro e w2 ⟨rfl, hb2⟩; have HB2 := hide (bstep HB1.out hb2); clear hb2)
      exact ⟨⟨rfl, rfl, j + 1, hlt, by go_num, HB2.out⟩, by simp [intOf]; omega⟩
    · have HR := hide (bstep HB0.out HBR.out)
      rcases hk with ⟨k1, k2, rfl⟩ | ⟨k1, k2, rfl⟩
      · have t1 : (kind == 31) = false := beq_eq_false_iff_ne.2 (by omega)
        have t2 : (kind == 32) = false := beq_eq_false_iff_ne.2 (by omega)
        have t3 : (kind == 33) = false := beq_eq_false_iff_ne.2 (by omega)
        have t4 : (kind == 34) = false := beq_eq_false_iff_ne.2 (by omega)
        have t5 : (kind == 35) = false := beq_eq_false_iff_ne.2 (by omega)
        have t6 : (kind == 36) = false := beq_eq_false_iff_ne.2 (by omega)
        have t7 : (kind == 37) = false := beq_eq_false_iff_ne.2 (by omega)
        have t8 : (kind == 38) = false := beq_eq_false_iff_ne.2 (by omega)
        have t9 : (kind == 39) = false := beq_eq_false_iff_ne.2 (by omega)
        have t10 : (kind == 40) = false := beq_eq_false_iff_ne.2 (by omega)
        have t11 : (kind == 41) = false := beq_eq_false_iff_ne.2 (by omega)
        have t12 : (kind == 43) = false := beq_eq_false_iff_ne.2 (by omega)
        have t13 : (kind == 45) = false := beq_eq_false_iff_ne.2 (by omega)
        have t14 : (kind == 46) = false := beq_eq_false_iff_ne.2 (by omega)
        have t15 : (kind == 47) = false := beq_eq_false_iff_ne.2 (by omega)
        clear k1 k2
        go_wp2_with fail
        go_ret2
        exact ⟨rfl, HR.out⟩
      · have hkk : kind = 37 ∨ kind = 38 ∨ kind = 39 ∨ kind = 40 ∨ kind = 41 := by omega
        clear k1 k2
        rcases hkk with rfl | rfl | rfl | rfl | rfl
        all_goals
          go_wp2_with fail
          go_ret2
          exact ⟨rfl, HR.out⟩
theorem hz_val (n : Nd) : (∃ p, typeF n = some p) → HzC 0 n := by
  induction n using Nd.ind with
  | h n ih =>
  rintro ⟨p, hp⟩
  obtain ⟨kind, at_, name, value, a, b, c, d, KA, kc, kids⟩ := n
  obtain ⟨h1, h2⟩ := typ_parts hp
  exact hz_step _ 0 (.inl ⟨h1.1, h1.2, rfl⟩) fun k hk => ih k hk (h2 k hk)
theorem hz_event (n : Nd) (hk : 37 ≤ n.kind ∧ n.kind ≤ 41) (h : ∀ k ∈ n.kids, ∃ p, typeF k = some p) : HzC 1 n := hz_step n 1 (.inr ⟨hk.1, hk.2, rfl⟩) fun k hm => hz_val k (h k hm)

end Go.Proofs.YtbhcmnfeeogdhaaGreatDoor

/-
  event.Times at an event of the kinds without conditions, where all signals fit and the source has no limit.
-/
namespace Go.Proofs.YtbhcmnfeeogdhaaGreatDoor
open Go.RowKit

set_option maxRecDepth 100000 in
set_option maxHeartbeats 8000000 in
theorem times_simple (v : Wv) (c : Int) (M : Nat) (kind at_ : Int) (name value : ByteArray) (a b c0 d : Int) (KA : Option Addr) (kc : Nat) (x : Nd) (f t : Int) (w : World) (h : SourceAt w M v (-1) c) (hv : SmallOk v) (ht : TreesAt w (Un M w.heap.size) KA [x]) (hok : okF (.mk kind at_ name value a b c0 d KA kc [x])) (hokx : okF x) (hf60 : FewOk 60 x)
    (h60 : nodesF (.mk kind at_ name value a b c0 d KA kc [x]) ≤ 60) (hev : ∀ y ∈ sigF (.mk kind at_ name value a b c0 d KA kc [x]), ∀ k e, agrF y k e (.mk kind at_ name value a b c0 d KA kc [x]) = true → k ≠ 3) (hfn : ∀ y ∈ sigF (.mk kind at_ name value a b c0 d KA kc [x]), sigE v (.mk kind at_ name value a b c0 d KA kc [x]) y = 0)
    (h0 : 0 ≤ c) (h1 : c ≤ 50000) (hp : ∃ p, typeF x = some p) (htyp : typB (typeF x) (if kind = 41 then 0 else 1) = true) (hfit : ∀ y ∈ sigF x, sigE v x y = 0) (hk : 37 ≤ kind ∧ kind ≤ 41) (hf : 0 ≤ f) (hft : f ≤ t) (htf : t ≤ v.fin) :
    Calls Tryz.prog 12 #[srcV M, .agg #[.int .i64 kind, .int .i64 at_, .string name, .string value, .int .i64 a, .int .i64 b, .int .i64 c0, .int .i64 d, .slice KA 1 kc], .int .i64 f, .int .i64 t] w (EcPost v x kind f t M w) := by
  have hM := h.lt
  have hfin := hv.fin.2
  obtain ⟨W0, hW0⟩ : ∃ W0, w.alloc (.cells #[.int .i64 kind, .int .i64 at_, .string name, .string value, .int .i64 a, .int .i64 b, .int .i64 c0, .int .i64 d, .slice KA 1 kc] 30) = W0 := ⟨_, rfl⟩
  have g0 := new_at hW0
  have hb0 : Below w.heap.size w W0 := by rw [← hW0]; exact (Below.refl _ _).alloc (Nat.le_refl _) _
  have hl0 := box_lt g0
  have HY := hide (fun (W : World) (hb : W.heap[w.heap.size]? = W0.heap[w.heap.size]?) => box9 (hb.trans g0))
  have HEND := hide (fun (W : World) (c' : Int) (hs : SrcTo w M v (-1) c' W) => end_any M v (-1) c' W hs.1)
  have HIE := hide (fun (W : World) (c' : Int) (hs : SrcTo w M v (-1) c' W) => isev_simple kind at_ name value a b c0 d KA kc x W ((tree_src ht hs).more fun _ => un_lo) hk)
  rw [htyp] at HIE
  have HHZ := hide (fun (W : World) (c' : Int) (hs : SrcTo w M v (-1) c' W) => hz_event (.mk kind at_ name value a b c0 d KA kc [x]) hk (fun k hm => by simp [Nd.kids] at hm; subst hm; exact hp) W ((tree_src ht hs).more fun _ => un_lo))
  have HRD := hide (fun (p q : Int) (hp : 0 ≤ p) (hq : p ≤ q) (hr : q ≤ v.fin) (W : World) (hs : SrcTo w M v (-1) c W) => eread_ok v c M (.mk kind at_ name value a b c0 d KA kc [x]) p q W hs.1 hv (tree_src ht hs) hok h60 hev h0 h1 hp hq hr hfn)
  have HFD := hide (fun (W : World) (c' : Int) (hs : SrcTo w M v (-1) c' W) (q0 : 0 ≤ c') (q1 : c' ≤ 100000) => find_simple v c' M kind at_ name value a b c0 d KA kc x f t W hs.1 hv (tree_src ht hs) hokx hf60 q0 q1 hp hfit hk hf hft htf)
  have HS0 := hide (SrcTo.start h hb0)
  have HW0 := hide hW0
  have HB0 := hide hb0
  clear hW0 g0 ht h hok hokx hf60 h60 hev hfn hp htyp hfit hk
  unfold cNd at HHZ HRD
  dsimp only at HHZ HRD
  unfold srcV at HRD HFD ⊢
  have hm := meth_end (some ⟨M, 0, none⟩)
  have hw1 : IntKind.i64.wrap (f - 1) = f - 1 := by rw [IntWalk.i64_in _ (by omega)]
  have hw2 : IntKind.i64.wrap t = t := by rw [IntWalk.i64_in _ (by omega)]
  have T1 : decide (f < 0) = false := decide_eq_false (by omega)
  have T2 : decide (t < f) = false := decide_eq_false (by omega)
  have T3 : decide (v.fin < t) = false := decide_eq_false (by omega)
  go_enter Tryz.func12, Tryz.ntmps12
  go_upto_region 1 with (fail)
  rw [HW0.out]
  go_upto_region 3 with (go_at_call 319; refine (HEND.out W0 _ HS0.out).mono ?_; rintro e w1 ⟨rfl, rfl⟩)
  obtain ⟨y0, y1, y2, y3, y4, y5, y6, y7, y8⟩ := HY.out W0 rfl
  go_upto_region 5 with (go_at_call 30; refine (HIE.out W0 _ HS0.out).mono ?_; rintro e w2 ⟨rfl, hb2⟩; have HB2 := hide hb2; clear hb2)
  clear y0 y1 y2 y3 y4 y5 y6 y7 y8
  have HS2 := hide (HS0.out.below HB2.out)
  obtain ⟨y0, y1, y2, y3, y4, y5, y6, y7, y8⟩ := HY.out w2 (HB2.out.block _ hl0)
  go_upto_region 6 with (go_at_call 31; refine (HHZ.out w2 _ HS2.out).mono ?_; rintro e w3 ⟨rfl, hb3⟩; have HB3 := hide (bstep HB2.out hb3); have HS3 := hide (HS2.out.below hb3); clear hb3)
  clear y0 y1 y2 y3 y4 y5 y6 y7 y8
  obtain ⟨y0, y1, y2, y3, y4, y5, y6, y7, y8⟩ := HY.out w3 (HB3.out.block _ hl0)
  have HSD := hide (HS3.out.below (below_drew (Below.refl _ _)))
  go_region_law
    (first
      | (go_simp
         go_at_call 319
         refine (HEND.out w3.drew _ HSD.out).mono ?_
         rintro e w4 ⟨rfl, rfl⟩)
      | (go_simp
         go_at_call 32
         refine (HRD.out _ _ (by omega) (by omega) (by omega) _ HSD.out).mono ?_
         rintro e w5 ⟨rfl, c5, q0, q1, hs5⟩
         have HS5 := hide (HSD.out.trans hs5)
         have HN5 := hide (HY.out w5 ((hs5.2.block _ (by have := HB3.out.size; have : w3.drew.heap.size = w3.heap.size := rfl; omega) (fun e => by injection e with e; omega)).trans (HB3.out.block _ hl0)))
         clear hs5)
      | fail)
  all_goals
    clear y0 y1 y2 y3 y4 y5 y6 y7 y8
    obtain ⟨y0, y1, y2, y3, y4, y5, y6, y7, y8⟩ := HN5.out
    go_wp2_with fail
    refine (HFD.out w5 _ HS5.out q0 (by omega)).mono ?_
    rintro e w6 ⟨l, B, cb, e1, e2, rfl, e3, c', e4⟩
    have hzl := chgT_len kind f l (l.length - 1)
    have HE1 := hide (show EcPost v x kind f t M w (.returned (.tuple #[.slice B (chgT kind f l (l.length - 1)).length cb, .int .i64 0])) w6 from ⟨l, B, cb, e1, e2, rfl, e3.lower HS5.out.2.size, c', HS5.out.trans e4⟩)
    have T9 : decide ((4096 : Int) < ((chgT kind f l (l.length - 1)).length : Int)) = false := decide_eq_false (by omega)
    clear e1 e3 e4
    go_wp2_with fail
    go_ret2
    exact HE1.out

end Go.Proofs.YtbhcmnfeeogdhaaGreatDoor

/-
  The example of the chapter on events: its wave, in plain Lean.
-/
namespace Go.Proofs.YtbhcmnfeeogdhaaGreatDoor
open Go.RowKit

def awChs : List Chg := [⟨2, ⟨#[48]⟩⟩, ⟨5, ⟨#[49]⟩⟩, ⟨8, ⟨#[122]⟩⟩]
def awSg (A : Option Addr) (c : Nat) : Sgn := ⟨0, 1, A, c, awChs⟩
def awWv (A : Option Addr) (c : Nat) (S : Option Addr) (sc : Nat) : Wv := ⟨S, sc, [awSg A c], none, 0, 0, 9⟩
def awSp : List Spn := [⟨0, 1, ⟨#[120]⟩⟩, ⟨2, 4, ⟨#[48]⟩⟩, ⟨5, 7, ⟨#[49]⟩⟩, ⟨8, 9, ⟨#[122]⟩⟩]
theorem aw_val (A : Option Addr) (c : Nat) (t : Int) : valS (awSg A c) t = if 8 ≤ t then ⟨#[122]⟩ else if 5 ≤ t then ⟨#[49]⟩ else if 2 ≤ t then ⟨#[48]⟩ else ⟨#[120]⟩ := rfl
theorem aw_spans (A : Option Addr) (c : Nat) : Spans (valS (awSg A c)) 0 9 awSp := by
  refine ⟨rfl, by decide, fun t h1 h2 => ?_, by decide, rfl, by decide, fun t h1 h2 => ?_, by decide, rfl, by decide, fun t h1 h2 => ?_, by decide, rfl, rfl, by decide, fun t h1 h2 => ?_⟩
  all_goals
    dsimp only [awSp] at h1 h2
    rw [aw_val]
  · rw [if_neg (by omega), if_neg (by omega), if_neg (by omega)]
  · rw [if_neg (by omega), if_neg (by omega), if_pos (by omega)]
  · rw [if_neg (by omega), if_pos (by omega)]
  · rw [if_pos (by omega)]
def awX : Nd := .mk 1 0 ⟨#[]⟩ ⟨#[]⟩ 0 1 0 0 none 0 []
theorem aw_type : typeF awX = some (0, 1) := by
  unfold awX
  rw [typeF_mk]
  rfl
theorem aw_small (A : Option Addr) (c : Nat) (S : Option Addr) (sc : Nat) : SmallOk (awWv A c S sc) := by
  refine ⟨by simp [awWv], by simp [awWv], fun s hs => ?_⟩
  simp only [awWv, List.mem_singleton] at hs
  subst hs
  refine ⟨by simp [awSg], by simp [awSg], by simp [awSg, awChs], ?_, fun x hx => ?_⟩
  · show awChs.Pairwise fun a b => a.time < b.time
    unfold awChs
    decide
  · simp only [awSg, awChs, List.mem_cons, List.not_mem_nil, or_false] at hx
    rcases hx with rfl | rfl | rfl
    all_goals exact ⟨by simp, by simp [awWv], fun _ => ⟨rfl, rfl⟩, by decide⟩
theorem aw_ok : okF awX := by
  rw [okF_eq]
  exact ⟨by simp [awX, I64, Nd.kind, Nd.a, Nd.b, Nd.c, Nd.d], fun k hk => by cases hk⟩
theorem aw_few : FewOk 60 awX := by
  rw [FewOk_eq]
  have h1 : nodesF awX = 1 := by
    unfold nodesF
    rw [Nd.fold_eq]
    rfl
  exact ⟨by decide, by decide, by omega, fun k hk => by cases hk⟩
theorem aw_sigs : sigF awX = [0] := by
  rw [sigF_eq]
  rfl
def awN (kind : Int) (KA : Option Addr) (kc : Nat) : Nd := .mk kind 0 ⟨#[]⟩ ⟨#[]⟩ 0 0 0 0 KA kc [awX]
theorem aw_nok (kind : Int) (hk : 37 ≤ kind ∧ kind ≤ 41) (KA : Option Addr) (kc : Nat) : okF (awN kind KA kc) := by
  rw [okF_eq]
  refine ⟨?_, fun k h => ?_⟩
  · simp only [awN, Nd.kind, Nd.a, Nd.b, Nd.c, Nd.d, I64]
    omega
  · simp only [awN, Nd.kids, List.mem_singleton] at h
    subst h
    exact aw_ok
theorem aw_nsigs (kind : Int) (hk : 37 ≤ kind ∧ kind ≤ 41) (KA : Option Addr) (kc : Nat) : sigF (awN kind KA kc) = [0] := by
  have hn : ¬ (awN kind KA kc).kind = 1 := by show ¬ kind = 1; omega
  have hm : (awN kind KA kc).kids.map sigF = [[0]] := by show [sigF awX] = _; rw [aw_sigs]
  rw [sigF_eq, hm]
  unfold sigB
  rw [if_neg hn]
  rfl
theorem aw_agr : agrF 0 0 1 awX = true := by
  rw [agrF_eq]
  rfl
theorem aw_nagr (kind : Int) (hk : 37 ≤ kind ∧ kind ≤ 41) (KA : Option Addr) (kc : Nat) (x k w : Int) : agrF x k w (awN kind KA kc) = agrF x k w awX := by
  unfold awN
  rw [agrF_mk, decide_eq_false (show ¬ kind = 1 by omega)]
  simp
theorem aw_nodes (kind : Int) (KA : Option Addr) (kc : Nat) : nodesF (awN kind KA kc) ≤ 60 := by
  have h1 : nodesF awX = 1 := by
    unfold nodesF
    rw [Nd.fold_eq]
    rfl
  have h2 : nodesF (awN kind KA kc) = 2 := by
    unfold nodesF
    rw [Nd.fold_eq]
    show 1 + sumF [nodesF awX] = 2
    rw [h1]
    rfl
  omega
theorem aw_fit (A : Option Addr) (c : Nat) (S : Option Addr) (sc : Nat) : ∀ y ∈ sigF awX, sigE (awWv A c S sc) awX y = 0 := by
  intro y hy
  rw [aw_sigs, List.mem_singleton] at hy
  subst hy
  unfold sigE
  rw [if_neg (by simp [awWv]), show sgnAt (awWv A c S sc) 0 = awSg A c from rfl]
  show (if agrF 0 0 1 awX then (0 : Int) else 7) = 0
  rw [aw_agr]
  rfl
theorem aw_nfit (kind : Int) (hk : 37 ≤ kind ∧ kind ≤ 41) (KA : Option Addr) (kc : Nat) (A : Option Addr) (c : Nat) (S : Option Addr) (sc : Nat) : ∀ y ∈ sigF (awN kind KA kc), sigE (awWv A c S sc) (awN kind KA kc) y = 0 := by
  intro y hy
  have h := aw_fit A c S sc y (by rw [aw_nsigs kind hk] at hy; rw [aw_sigs]; exact hy)
  unfold sigE at h ⊢
  rw [aw_nagr kind hk]
  exact h
theorem aw_nev (kind : Int) (hk : 37 ≤ kind ∧ kind ≤ 41) (KA : Option Addr) (kc : Nat) : ∀ y ∈ sigF (awN kind KA kc), ∀ k e, agrF y k e (awN kind KA kc) = true → k ≠ 3 := by
  intro y hy k e h
  rw [aw_nsigs kind hk, List.mem_singleton] at hy
  subst hy
  rw [aw_nagr kind hk] at h
  unfold awX at h
  rw [agrF_mk] at h
  rintro rfl
  simp at h

end Go.Proofs.YtbhcmnfeeogdhaaGreatDoor

/-
  wavestorelaw53.awake: true.
-/
namespace Go.Proofs.YtbhcmnfeeogdhaaGreatDoor
open Go.RowKit

theorem row_blk {α : Type} {w : World} {P : Nat → Prop} {N m : Nat} {cs : Array Value} {t : TypeId} {cells : α → List Value} {xs : List α} (h : w.heap[N]? = some (.cells cs t (0, 0))) (hf : ∀ x, (cells x).length = m) (hc : cs = (xs.flatMap cells).toArray) (hp : P N) : Row w P m cells (some ⟨N, 0, none⟩) xs := fun _ => by
  refine ⟨N, 0, rfl, hp, fun i x hi j hj => ?_⟩
  rw [Nat.zero_add, cell_of_row w N _ cs t (0, 0) h, hc, List.getElem?_toArray]
  exact flat_at cells m hf hi hj
theorem ints_blk {w : World} {N : Nat} {cs : Array Value} {t : TypeId} {zs : List Int} (h : w.heap[N]? = some (.cells cs t (0, 0))) (hc : cs = (zs.map (Value.int .i64)).toArray) : IntsAt w w.heap.size (some ⟨N, 0, none⟩) zs := fun _ => by
  refine ⟨N, 0, rfl, box_lt h, fun i z hi => ?_⟩
  rw [cell_of_row w N _ cs t (0, 0) h, hc, List.getElem?_toArray, Nat.zero_add, List.getElem?_map, hi]
  rfl
def IntsRelA (w : World) (xs : List Int) (i : Value) (wr : World) : Prop := ∃ k : Nat, k ≤ xs.length ∧ i = .int .i64 k ∧ Below w.heap.size w wr
set_option maxHeartbeats 1000000 in
theorem ints_eqA (A B : Option Addr) (c d : Nat) (xs : List Int) (w : World) (hx : IntsAt w w.heap.size A xs) (hy : IntsAt w w.heap.size B xs) (hl : xs.length ≤ 4398046511104) :
    Calls Tryz.prog 16 #[.slice A xs.length c, .slice B xs.length d] w fun e w' => e = .returned (.bool true) ∧ Below w.heap.size w w' := by
  go_enter Tryz.func16, Tryz.ntmps16
  go_wp2_with fail
  go_loopw [5] (fun i wr => IntsRelA w xs i wr) (fun i _ => xs.length - (intOf i).toNat)
  case atStart => exact ⟨0, Nat.zero_le _, rfl, Below.refl _ _⟩
  case round =>
    obtain ⟨k, hk, rfl, hb⟩ := hrel
    by_cases hlt : k < xs.length
    · obtain ⟨b, off, rfl, hbb, hc1⟩ := (hx.below hb).at_ hlt
      obtain ⟨b', off', rfl, hbb', hc1'⟩ := (hy.below hb).at_ hlt
      have hd1 : decide ((k : Int) < (xs.length : Int)) = true := decide_eq_true (by omega)
      have hq0 : (0 : Int) ≤ (k : Int) := by omega
      go_wp2_with fail
      go_quiet (fail)
      go_wp2_with fail
      go_roundw
      case rel => exact ⟨k + 1, by omega, by go_num, below_drewN hb _⟩
      case measure => simp [intOf]; omega
    · go_wp2_with fail
      go_ret
      exact ⟨rfl, hb⟩
theorem ints_two (A B : Option Addr) (c d n : Nat) (xs : List Int) (hn : xs.length = n) (w : World) (hx : IntsAt w w.heap.size A xs) (hy : IntsAt w w.heap.size B xs) (hl : n ≤ 4398046511104) :
    Calls Tryz.prog 16 #[.slice A n c, .slice B n d] w fun e w' => e = .returned (.bool true) ∧ Below w.heap.size w w' := by
  subst hn
  exact ints_eqA A B c d xs w hx hy hl
/-- the times of the example -/
def AwPost (zs : List Int) (n : Nat) (w : World) (e : Ending) (w' : World) : Prop := ∃ (C : Option Addr) (cc : Nat), e = .returned (.slice C n cc) ∧ IntsAt w' w'.heap.size C zs ∧ Below w.heap.size w w'
theorem aw_37 : chgT 37 0 awSp 3 = [5] := by simp [chgT, awSp, chg1, isEv, eq1_lit]
theorem aw_40 : chgT 40 0 awSp 3 = [2, 8] := by simp [chgT, awSp, chg1, isEv, eq1_lit, unkB]
theorem aw_39 : chgT 39 0 awSp 3 = [5] := by simp [chgT, awSp, chg1, isEv, eq1_lit, unkB]
theorem aw_41 : chgT 41 0 awSp 3 = [2, 5, 8] := by simp [chgT, awSp, chg1, isEv, ByteArray.toList_eq]
theorem aw_tree {w : World} {M K : Nat} {t : TypeId} (h : w.heap[K]? = some (.cells (cNd awX).toArray t (0, 0))) (hne : K ≠ M) : TreesAt w (Un M w.heap.size) (some ⟨K, 0, none⟩) [awX] := by
  refine .mk _ _ (by simp) (row_blk h (fun x => by cases x; rfl) (by simp) ⟨box_lt h, hne⟩) fun k hk => ?_
  cases List.mem_singleton.1 hk
  exact .mk _ _ (by simp [awX, Nd.kids]) (fun h => absurd rfl h) fun k hk => by cases hk
theorem aw_res (A : Option Addr) (c : Nat) (S : Option Addr) (sc : Nat) {l : List Spn} (h : Spans (fun u => valF (envW (awWv A c S sc) u) awX) (max (0 - 1) 0) 9 l) : l = awSp := by
  have h0 : (fun u => valF (envW (awWv A c S sc) u) awX) = valS (awSg A c) := by
    funext u
    unfold awX
    rw [valF_mk, if_pos rfl]
    rfl
  rw [h0] at h
  exact h.uniq (aw_spans A c)

set_option maxRecDepth 100000 in
set_option maxHeartbeats 8000000 in
theorem aw_of (kind : Int) (zs : List Int) (m : Nat) (hk : 37 ≤ kind ∧ kind ≤ 41) (hzs : chgT kind 0 awSp 3 = zs) (hm : zs.length = m) (A S : Option Addr) (B : Nat) (w : World) (hbox : w.heap[B]? = some (.cells #[.slice S 1 1, .slice none 0 0, .int .i64 9] 27 (0, 0))) (hS : SigsAt w (Lo w.heap.size) S [awSg A 3]) :
    Calls Tryz.prog 24 #[.int .i64 kind, .pointer (some ⟨B, 0, none⟩)] w (AwPost zs m w) := by
  have hv := aw_small A 3 S 1
  have HNEW := hide (show Calls Tryz.prog 13 #[.agg #[.slice S 1 1, .slice none 0 0, .int .i64 9]] w (fun e w' => ∃ M, e = .returned (.pointer (some ⟨M, 0, none⟩)) ∧ w.heap.size ≤ M ∧ SourceAt w' M (awWv A 3 S 1) (-1) 0 ∧ Below w.heap.size w w') from new_any (awWv A 3 S 1) w hS)
  have HT := hide (fun (M : Nat) (W : World) (h : SourceAt W M (awWv A 3 S 1) (-1) 0) (KA : Option Addr) (ht : TreesAt W (Un M W.heap.size) KA [awX]) =>
    times_simple (awWv A 3 S 1) 0 M kind 0 ⟨#[]⟩ ⟨#[]⟩ 0 0 0 0 KA 1 awX 0 9 W h hv ht (aw_nok kind hk KA 1) aw_ok aw_few (aw_nodes kind KA 1) (aw_nev kind hk KA 1) (aw_nfit kind hk KA 1 A 3 S 1) (by decide) (by decide) ⟨_, aw_type⟩ (by rw [aw_type]; split <;> rfl) (aw_fit A 3 S 1) hk (by decide) (by decide) (show (9 : Int) ≤ 9 by decide))
  have c0 : w.cell? ⟨B, 0, none⟩ = some (.slice S 1 1) := by rw [cell_of_row w B _ _ _ (0, 0) hbox]; rfl
  have c1 : w.cell? ⟨B, 1, none⟩ = some (.slice none 0 0) := by rw [cell_of_row w B _ _ _ (0, 0) hbox]; rfl
  have c2 : w.cell? ⟨B, 2, none⟩ = some (.int .i64 9) := by rw [cell_of_row w B _ _ _ (0, 0) hbox]; rfl
  have HRES := hide (fun (l : List Spn) => aw_res A 3 S 1 (l := l))
  clear hv hS hbox hk
  unfold srcV at HT
  go_enter Tryz.func24, Tryz.ntmps24
  go_wp2_with first
    | (go_at_call 13
       refine HNEW.out.mono ?_
       rintro e w1 ⟨M, rfl, hM, hs1, hb1⟩
       obtain ⟨W1, hW1⟩ : ∃ W1, w1.alloc (.cells #[.int .i64 1, .int .i64 0, .string ⟨#[]⟩, .string ⟨#[]⟩, .int .i64 0, .int .i64 1, .int .i64 0, .int .i64 0, .slice none 0 0] 30) = W1 := ⟨_, rfl⟩
       have g1 := new_at hW1
       have hb2 : Below w1.heap.size w1 W1 := by rw [← hW1]; exact (Below.refl _ _).alloc (Nat.le_refl _) _
       have HTC := hide (HT.out M W1 (hs1.below hb2) (some ⟨w1.heap.size, 0, none⟩) (aw_tree (t := 30) g1 (Nat.ne_of_gt hs1.lt)))
       have HB1 := hide (bstep hb1 hb2)
       have HW1 := hide hW1
       have HM := hide hM
       clear hs1 hb1 hb2 g1 hW1 hM HT c0 c1 c2)
    | (go_at_call 12
       rw [HW1.out]
       refine HTC.out.mono ?_
       rintro e w3 ⟨l, C, cc, hsp, hl, rfl, hown, c', hsr⟩
       obtain rfl := HRES.out l hsp
       have hown2 : OwnInt w3 W1.heap.size C cc zs := by rw [← hzs]; exact hown
       have hlen : (chgT kind 0 awSp (awSp.length - 1)).length = m := by rw [← hm, ← hzs]; rfl
       rw [hlen]
       have HF := hide (show AwPost zs m w (.returned (.slice C m cc)) w3 from ⟨C, cc, rfl, hown2.ats, HB1.out.trans (hsr.2.below HB1.out.size (fun k e => by injection e with e; have := HM.out; omega))⟩)
       clear hsp hl hown hown2 hsr hlen)
  go_ret
  exact HF.out
theorem chain3e (w : World) (a b c : Obj) {V : World} (hV : ((w.alloc a).alloc b).alloc c = V) : V.heap[w.heap.size]? = some a ∧ V.heap[w.heap.size + 1]? = some b ∧ V.heap[w.heap.size + 1 + 1]? = some c ∧ Below w.heap.size w V := by
  subst hV
  have s1 : (w.alloc a).heap.size = w.heap.size + 1 := World.size_alloc _ _
  have s2 : ((w.alloc a).alloc b).heap.size = w.heap.size + 1 + 1 := by rw [World.size_alloc, s1]
  have n0 := heap_alloc_new w a
  have n1 := heap_alloc_new (w.alloc a) b
  have n2 := heap_alloc_new ((w.alloc a).alloc b) c
  rw [s1] at n1
  rw [s2] at n2
  exact ⟨box_alloc (box_alloc n0), box_alloc n1, n2, ((((Below.refl _ _).alloc (Nat.le_refl _) _).alloc (by omega) _).alloc (by omega) _)⟩

set_option maxRecDepth 100000 in
set_option maxHeartbeats 8000000 in
theorem awake53 : Awake53 := by
  intro w
  obtain ⟨W3, hW3⟩ : ∃ W3, ((w.alloc (.cells #[.int .i64 2, .string ⟨#[48]⟩, .int .i64 5, .string ⟨#[49]⟩, .int .i64 8, .string ⟨#[122]⟩] 67)).alloc (.cells #[.int .i64 0, .int .i64 1, .slice (some ⟨w.heap.size, 0, none⟩) 3 3] 70)).alloc (.cells #[.slice (some ⟨w.heap.size + 1, 0, none⟩) 1 1, .slice none 0 0, .int .i64 9] 27) = W3 := ⟨_, rfl⟩
  obtain ⟨g0, g1, g2, hb3⟩ := chain3e _ _ _ _ hW3
  have hS : SigsAt W3 (Lo W3.heap.size) (some ⟨w.heap.size + 1, 0, none⟩) [awSg (some ⟨w.heap.size, 0, none⟩) 3] := by
    refine ⟨row_blk g1 (fun x => by cases x; rfl) (by simp [awSg, cSgn, awChs]) (box_lt g1), fun s hs => ?_⟩
    cases List.mem_singleton.1 hs
    exact row_blk g0 (fun x => by cases x; rfl) (by simp [awSg, cChg, awChs]) (box_lt g0)
  have OF := hide (fun (kind : Int) (zs : List Int) (m : Nat) (hk : 37 ≤ kind ∧ kind ≤ 41) (hzs : chgT kind 0 awSp 3 = zs) (hm : zs.length = m) (W : World) (hb : Below W3.heap.size W3 W) =>
    aw_of kind zs m hk hzs hm (some ⟨w.heap.size, 0, none⟩) (some ⟨w.heap.size + 1, 0, none⟩) (w.heap.size + 1 + 1) W ((hb.block _ (box_lt g2)).trans g2) ((hS.stay (stay_below hb fun _ h => h)).more fun _ h => Nat.lt_of_lt_of_le h hb.size))
  have IN := hide (fun (W : World) (C : Option Addr) (cc m : Nat) (zs : List Int) (cs : Array Value) (hi : IntsAt W W.heap.size C zs) (hm : zs.length = m) (hc : cs = (zs.map (Value.int .i64)).toArray) (hl : m ≤ 4398046511104) =>
    ints_two C (some ⟨W.heap.size, 0, none⟩) cc m m zs hm (W.alloc (.cells cs 3)) (hi.step ((Below.refl _ _).alloc (Nat.le_refl _) _)) (ints_blk (heap_alloc_new W _) hc) hl)
  have AL := hide (fun (W : World) (o : Obj) => show Below W.heap.size W (W.alloc o) from (Below.refl _ _).alloc (Nat.le_refl _) _)
  have HB3 := hide hb3
  have HW3 := hide hW3
  clear g0 g1 g2 hb3 hS hW3
  go_enter Tryz.func8, Tryz.ntmps8
  go_upto_region 2 with (fail)
  rw [HW3.out]
  go_wp2_with (go_at_call 24; refine (OF.out 37 [5] 1 (by decide) aw_37 rfl _ (Below.refl _ _)).mono ?_; rintro e w4 ⟨C4, c4, rfl, hi4, hb4⟩; have HI4 := hide hi4; have HB4 := hide hb4; clear hi4 hb4)
  refine (IN.out w4 C4 c4 1 [5] _ HI4.out rfl rfl (by decide)).mono ?_
  rintro e w5 ⟨rfl, hb5⟩
  have HB5 := hide (bstep HB4.out (bstep (AL.out _ _) hb5))
  clear hb5 HI4 HB4
  go_wp2_with (go_at_call 24; refine (OF.out 40 [2, 8] 2 (by decide) aw_40 rfl _ HB5.out).mono ?_; rintro e w6 ⟨C6, c6, rfl, hi6, hb6⟩; have HI6 := hide hi6; have HB6 := hide (bstep HB5.out hb6); clear hi6 hb6)
  refine (IN.out w6 C6 c6 2 [2, 8] _ HI6.out rfl rfl (by decide)).mono ?_
  rintro e w7 ⟨rfl, hb7⟩
  have HB7 := hide (bstep HB6.out (bstep (AL.out _ _) hb7))
  clear hb7 HI6 HB6
  go_wp2_with (go_at_call 24; refine (OF.out 39 [5] 1 (by decide) aw_39 rfl _ HB7.out).mono ?_; rintro e w8 ⟨C8, c8, rfl, hi8, hb8⟩; have HI8 := hide hi8; have HB8 := hide (bstep HB7.out hb8); clear hi8 hb8)
  refine (IN.out w8 C8 c8 1 [5] _ HI8.out rfl rfl (by decide)).mono ?_
  rintro e w9 ⟨rfl, hb9⟩
  have HB9 := hide (bstep HB8.out (bstep (AL.out _ _) hb9))
  clear hb9 HI8 HB8
  go_wp2_with (go_at_call 24; refine (OF.out 41 [2, 5, 8] 3 (by decide) aw_41 rfl _ HB9.out).mono ?_; rintro e wa ⟨Ca, ca, rfl, hia, hba⟩; have HIa := hide hia; have HBa := hide (bstep HB9.out hba); clear hia hba)
  refine (IN.out wa Ca ca 3 [2, 5, 8] _ HIa.out rfl rfl (by decide)).mono ?_
  rintro e wb ⟨rfl, hbb⟩
  have HBb := hide (bstep HB3.out (bstep HBa.out (bstep (AL.out _ _) hbb)))
  clear hbb HIa HBa
  go_wp2_with fail
  go_ret
  exact ⟨rfl, HBb.out⟩

end Go.Proofs.YtbhcmnfeeogdhaaGreatDoor

/-
  The walk of EventSamples, in the order in which the lift hands on what it has read.
-/
namespace Go.Proofs.YtbhcmnfeeogdhaaGreatDoor
open Go.ChangeShapes Go.WideShapes Go.ChangeAt Go.RowKit Go.Deep

section
variable {H : Type} {enc : TypeId × Value → H} {W : World} {base : Nat} {spare : Nat → Bool} {held : Bool}
theorem rd_ints {fuel : Nat} {cs : List Value} {y : DataW H × List MemPlace} (h : DataW.trod enc Tryz.prog W base spare held fuel 32 cs = some y) (hf : Fit Tryz.prog 32 y.1) :
    ∃ A c xs, cs = [.slice A (List.length xs) c] ∧ IntsAt W W.heap.size A xs ∧ xs.length ≤ 140737488355328 ∧ True := by
  obtain ⟨A, c, rs, rfl, hr, hw⟩ := rd_slice 1 8 (fun z : Int => [.int .i64 z]) (fun _ => True) Tryz.underlying32 cellsInt1 (by decide) (by kernel_rfl)
    (fun n cs y h _ => by obtain ⟨z, rfl, _⟩ := rd_int Tryz.underlying3 h; exact ⟨z, rfl, trivial⟩) h hf
  refine ⟨A, c, rs, rfl, fun hne => ?_, by have : reachBytes < 2 ^ 47 := reachBytes_lt; omega, trivial⟩
  obtain ⟨b, off, rfl, hb, hc⟩ := hr hne
  refine ⟨b, off, rfl, hb, fun i r hi => ?_⟩
  have c0 := (hc i r hi).1 0 (by decide)
  simpa using c0
end
theorem samples_walk (v : Wv) (n : Nd) (A1 : Option Addr) (c1 : Nat) (ts : List Int) (W : World) (g : WaveIn W v) (h : TreeIn W n) (e1 : IntsAt W W.heap.size A1 ts) (e2 : ts.length ≤ 140737488355328) (_ : True) :
    Calls Tryz.prog 6 #[.agg (cWv v).toArray, .agg (cNd n).toArray, .slice A1 ts.length c1] W (fun e w' => e = .returned (.bool true) ∧ Below W.heap.size W w') := by
  obtain ⟨h1, h2, gs, h3, h4⟩ := g
  exact samples_all awake53 v gs n A1 c1 ts W h1 h4 h3 h2 h.1 h.2 (rtype_any n) e1 (by omega)

end Go.Proofs.YtbhcmnfeeogdhaaGreatDoor
