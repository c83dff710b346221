/-
  Several texts in one: Times, Bsf. Each says at its head what it holds.
-/
import Derived.Test.YtkbiefklilelmaaMR9
import Derived.Test.YtkbiefklilelmaaMR7
import Derived.Test.YtkbiefklilelmaaMR10
import Derived.Test.YtkbiefklilelmaaMR5
import Derived.Sort.LoopGhostIn
import Derived.Sort.CutIn
import Derived.Sort.QuietIn
import Derived.Deep.LoopGhost
import Derived.Deep.DeepCutAuto

/-
  match.input.times and its iterator: the times of an event within a range, one after the other.
-/
namespace Go.Proofs.Ytkbiefklilelmaa
open Go.RowKit Go.Shelf

attribute [local go_sem] Oper.semAt_some

/-- the three boxes of the iterator: its place in the list, the list, the greatest time -/
structure TBox (W : World) (Bi Bl Bt : Nat) (A : Option Addr) (n c : Nat) (i : Nat) (to_ : Int) : Prop where
  i : W.heap[Bi]? = some (.cells #[.int .i64 (i : Int)] 3 (0, 0))
  l : W.heap[Bl]? = some (.cells #[.slice A n c] 36 (0, 0))
  t : W.heap[Bt]? = some (.cells #[.int .i64 to_] 3 (0, 0))
/-- what a round keeps: all below a block, and the three boxes -/
def KpT (n₀ Bi Bl Bt : Nat) (W W' : World) : Prop := (∀ b, b < n₀ → W'.heap[b]? = W.heap[b]?) ∧ W'.heap[Bi]? = W.heap[Bi]? ∧ W'.heap[Bl]? = W.heap[Bl]? ∧ W'.heap[Bt]? = W.heap[Bt]?
theorem KpT.trans {n₀ Bi Bl Bt : Nat} {a b c : World} (h : KpT n₀ Bi Bl Bt a b) (k : KpT n₀ Bi Bl Bt b c) : KpT n₀ Bi Bl Bt a c :=
  ⟨fun j hj => (k.1 j hj).trans (h.1 j hj), k.2.1.trans h.2.1, k.2.2.1.trans h.2.2.1, k.2.2.2.trans h.2.2.2⟩
theorem TBox.keep {n₀ Bi Bl Bt : Nat} {W W' : World} {A : Option Addr} {n c i : Nat} {to_ : Int} (h : TBox W Bi Bl Bt A n c i to_) (k : KpT n₀ Bi Bl Bt W W') : TBox W' Bi Bl Bt A n c i to_ :=
  ⟨k.2.1.trans h.i, k.2.2.1.trans h.l, k.2.2.2.trans h.t⟩
/-- a time that a list holds -/
abbrev InL (L : List Int) := { t : Int // t ∈ L }
def tEnc {L : List Int} (t : InL L) : Array Value := #[.int .i64 t.1]
abbrev vals {L : List Int} (pre : List (InL L)) : List Int := pre.map Subtype.val

/-- between two rounds of the iterator's own loop -/
def TRel (n₀ Bi Bl Bt : Nat) (A : Option Addr) (c : Nat) (l : List Int) (i₀ : Nat) (to_ : Int) (J : List (InL (upTo l i₀ to_)) → World → Prop) (W : World) (g : Nat) (wr : World) : Prop :=
  ∃ i : Nat, g = l.length - i ∧ i ≤ l.length ∧ i₀ ≤ i ∧ (∃ pre : List (InL (upTo l i₀ to_)), vals pre ++ upTo l i to_ = upTo l i₀ to_ ∧ J pre wr) ∧ TBox wr Bi Bl Bt A l.length c i to_ ∧ ∀ b, b < n₀ → wr.heap[b]? = W.heap[b]?

set_option maxRecDepth 100000 in
set_option maxHeartbeats 2000000 in
theorem times1_in (n lp n₀ Bi Bl Bt : Nat) (A : Option Addr) (c i₀ : Nat) (l : List Int) (to_ : Int) (hn : 1 ≤ n) (hl : l.length ≤ 1000000) (hBi : n₀ ≤ Bi) (hBl : Bi ≠ Bl) (hBt : Bi ≠ Bt) (J Jx : List (InL (upTo l i₀ to_)) → World → Prop) (fJ : BoxFree Bi J)
    (hY : ∀ pre x W, J pre W → pre.length < l.length → YieldAt Fence.wide (n - 1) Try.prog lp (tEnc x) W fun e W' =>
      (e = .returned (.bool true) ∧ J (pre ++ [x]) W' ∧ KpT n₀ Bi Bl Bt W W') ∨ (e = .returned (.bool false) ∧ Jx (pre ++ [x]) W'))
    (W : World) (h : TBox W Bi Bl Bt A l.length c i₀ to_) (hi₀ : i₀ ≤ l.length) (hA : IntsAt W n₀ A l) (h0 : J [] W) :
    CallsIn Fence.wide n Try.prog 100 #[.func (.yield lp) #[] #[], .pointer (some ⟨Bi, 0, none⟩), .pointer (some ⟨Bl, 0, none⟩), .pointer (some ⟨Bt, 0, none⟩)] W fun e W' => (∃ v, e = .returned v) ∧
      ((∃ xs, vals xs = upTo l i₀ to_ ∧ J xs W') ∨ (∃ pre, vals pre <+: upTo l i₀ to_ ∧ Jx pre W')) := by
  refine callsIn_of_wp Try.func100 rfl trivial ?_ rfl
  simp only [Try.ntmps100, List.size_toArray, List.length_cons, List.length_nil, Nat.reduceAdd, Nat.reduceSub, Array.replicate_succ, Array.replicate_zero, List.push_toArray, List.append_toArray, List.nil_append, List.cons_append]
  gi_wp2_with fail
  gi_loopg [5] (l.length - i₀) (fun g _ wr => TRel n₀ Bi Bl Bt A c l i₀ to_ J W g wr)
  case atStart => exact ⟨i₀, rfl, hi₀, Nat.le_refl _, ⟨[], rfl, h0⟩, h, fun _ _ => rfl⟩
  case round =>
    obtain ⟨i, hg, hil, hi0, ⟨pre, hpre, hJ⟩, tb, hkeep⟩ := hrel
    have HPRE := hide hpre
    have HG := hide hg
    clear hpre hg
    have c1 := box_cell tb.i
    have c2 := box_cell tb.l
    have c3 := box_cell tb.t
    have f1 := box_frozen tb.i
    by_cases hlt : i < l.length
    · obtain ⟨b, off, rfl, hb, e0⟩ := hA.at_ hlt
      have e1 : wr.cell? ⟨b, off + i, none⟩ = some (.int .i64 l[i]) := (World.cell?_of_block (hkeep b hb)).trans e0
      have t1 : decide (i < l.length) = true := decide_eq_true hlt
      have HST := hide (fun h => upTo_step (to_ := to_) hlt h)
      have HFA := hide (fun h => upTo_far (to_ := to_) hlt h)
      generalize hx : l[i] = x at *
      have HX := hide hx
      clear hx e0
      by_cases hle : x ≤ to_
      · have t2 : decide (x ≤ to_) = true := decide_eq_true hle
        have HS := hide (HST.out hle)
        have hlen : pre.length < l.length := by
          have h1 := congrArg List.length HPRE.out
          rw [HS.out, List.length_append, List.length_cons, List.length_map] at h1
          have h2 := upTo_len l i₀ to_
          omega
        have hmem : x ∈ upTo l i₀ to_ := by rw [← HPRE.out, HS.out]; simp
        have HH := hide (show ∀ nq, YieldAt Fence.wide (n - 1) Try.prog lp #[.int .i64 x] (wr.drewN nq) fun e W' => (e = .returned (.bool true) ∧ J (pre ++ [⟨x, hmem⟩]) W' ∧ KpT n₀ Bi Bl Bt (wr.drewN nq) W') ∨ (e = .returned (.bool false) ∧ Jx (pre ++ [⟨x, hmem⟩]) W') from fun nq => hY pre ⟨x, hmem⟩ _ ((fJ _ _ hJ).2 nq) hlen)
        clear hle HST HFA
        gi_upto_region 0 with (fail)
        gi_quiet (fail)
        obtain ⟨fn, tmps, assign, body, hy, hR⟩ := HH.out nq
        gi_wp2
        refine hR.mono ?_
        rintro e W3 (⟨rfl, hJ3, hk3⟩ | ⟨rfl, hJx3⟩)
        · have tb3 := TBox.keep (W := wr.drewN nq) ⟨tb.i, tb.l, tb.t⟩ hk3
          have d1 := box_cell tb3.i
          have d2 := box_cell tb3.l
          have d3 := box_cell tb3.t
          have g1 := box_frozen tb3.i
          have HK3 := hide hk3
          have HJ3 := hide hJ3
          clear hk3 hJ3 c1 c2 c3 f1 e1 hy hR hJ
          gi_wp2
          gi_roundg (l.length - (i + 1))
          case measure => rw [HG.out]; omega
          case rel =>
            refine ⟨i + 1, rfl, by omega, by omega, ⟨pre ++ [⟨x, hmem⟩], ?_, (fJ _ _ HJ3.out).1 _⟩, ⟨?_, ?_, ?_⟩, ?_⟩
            · have h9 := HPRE.out; rw [HS.out] at h9; simpa using h9
            · have := box_set1 (u := .int .i64 ((i + 1 : Nat) : Int)) tb3.i
              exact this
            · exact box_set tb3.l (Ne.symm hBl)
            · exact box_set tb3.t (Ne.symm hBt)
            · intro b' hb'
              rw [Below.heap_setCell _ _ _ _ (by show b' ≠ Bi; omega), HK3.out.1 b' hb']
              exact hkeep b' hb'
        · gi_wp2
          refine bodyPost_ret (results_none rfl _ _ _) rfl ?_
          exact ⟨⟨_, rfl⟩, .inr ⟨pre ++ [⟨x, hmem⟩], ⟨upTo l (i + 1) to_, by have h9 := HPRE.out; rw [HS.out] at h9; simpa using h9⟩, hJx3⟩⟩
      · have t2 : decide (x ≤ to_) = false := decide_eq_false hle
        have HS := hide (HFA.out hle)
        have HE := hide (show vals pre = upTo l i₀ to_ by have h9 := HPRE.out; rwa [HS.out, List.append_nil] at h9)
        have HLE := hide hle
        clear hle HST HFA
        gi_upto_region 0 with (fail)
        gi_quiet (fail)
        gi_wp2
        go_end0
        exact ⟨⟨_, rfl⟩, .inl ⟨pre, HE.out, (fJ _ _ hJ).2 _⟩⟩
    · have t1 : decide (i < l.length) = false := decide_eq_false hlt
      have HE := hide (show vals pre = upTo l i₀ to_ by have h9 := HPRE.out; rwa [show upTo l i to_ = [] from upTo_end (by omega), List.append_nil] at h9)
      gi_upto_region 0 with (fail)
      gi_quiet (fail)
      gi_wp2
      go_end0
      exact ⟨⟨_, rfl⟩, .inl ⟨pre, HE.out, (fJ _ _ hJ).2 _⟩⟩

/-- the iterator's contract -/
theorem times_box (n n₀ Bi Bl Bt : Nat) (A : Option Addr) (c i₀ : Nat) (l : List Int) (to_ : Int) (hn : 1 ≤ n) (hl : l.length ≤ 1000000) (hBi : n₀ ≤ Bi) (hBl : Bi ≠ Bl) (hBt : Bi ≠ Bt) (w : World) (hz : n₀ ≤ w.heap.size) (h : TBox w Bi Bl Bt A l.length c i₀ to_) (hi₀ : i₀ ≤ l.length) (hA : IntsAt w n₀ A l) :
    SeqBox n Try.prog 100 #[.pointer (some ⟨Bi, 0, none⟩), .pointer (some ⟨Bl, 0, none⟩), .pointer (some ⟨Bt, 0, none⟩)] (tEnc (L := upTo l i₀ to_)) Bi (KpT n₀ Bi Bl Bt) (fun xs => vals xs = upTo l i₀ to_) (fun pre => vals pre <+: upTo l i₀ to_) l.length w := fun lp J Jx W hW fJ _ hY h0 =>
  times1_in n lp n₀ Bi Bl Bt A c i₀ l to_ hn hl hBi hBl hBt J Jx fJ hY W ⟨(hW.block _ (box_lt h.i)).trans h.i, (hW.block _ (box_lt h.l)).trans h.l, (hW.block _ (box_lt h.t)).trans h.t⟩ hi₀ (hA.keep fun _ hp => hW.cell (Nat.lt_of_lt_of_le hp hz)) h0

/-- what match.input.times returns: the iterator, with three boxes of its own -/
def TimesPost (A : Option Addr) (c : Nat) (l : List Int) (from_ to_ : Int) (w : World) (e : Ending) (w' : World) : Prop :=
  ∃ Bi Bl Bt : Nat, e = .returned (.func (.func 100) #[] #[.pointer (some ⟨Bi, 0, none⟩), .pointer (some ⟨Bl, 0, none⟩), .pointer (some ⟨Bt, 0, none⟩)]) ∧ Below w.heap.size w w' ∧ w.heap.size ≤ Bi ∧ w.heap.size ≤ Bl ∧ w.heap.size ≤ Bt ∧ Bi ≠ Bl ∧ Bi ≠ Bt ∧
    TBox w' Bi Bl Bt A l.length c (l.countP (· < from_)) to_

set_option maxRecDepth 100000 in
set_option maxHeartbeats 2000000 in
theorem times_any (x : MIn) (k : Nat) (hk : k < x.ev.length) (ei from_ to_ : Int) (he : ei = (k : Int)) (w : World) (h : MAt w x) (hl : x.ev[k].xs.length ≤ 1000000) (hs : x.ev[k].xs.Pairwise (· < ·)) (hn : x.ev.length ≤ 1000000) :
    Calls Try.prog 80 #[.agg (encX x).toArray, .int .i64 ei, .int .i64 from_, .int .i64 to_] w (TimesPost x.ev[k].A x.ev[k].c x.ev[k].xs from_ to_ w) := by
  subst he
  obtain ⟨⟨AE, nE, cE, AC, nC, cC, AF, cF, fin, AX, cX, edges⟩, AV, cV, ev, AS, cS, cs, en⟩ := x
  obtain ⟨_, hev, _⟩ := h
  dsimp only [encX, encA, List.cons_append, List.nil_append] at *
  obtain ⟨b, off, rfl, hb, e0, hints⟩ := hev.at_ hk
  obtain ⟨W0, hW0⟩ : ∃ W0 : World, (w.alloc (.cells #[.slice AE nE cE, .slice AC nC cC, .slice AF fin.length cF, .slice AX edges.length cX, .slice (some ⟨b, off, none⟩) ev.length cV, .slice AS cs.length cS, .int .i64 en] 83)).alloc (.cells #[.int .i64 to_] 3) = W0 := ⟨_, rfl⟩
  have hb0 : Below w.heap.size w W0 := by rw [← hW0]; exact ((Below.refl _ _).alloc (Nat.le_refl _) _).alloc (by simp) _
  have gx : W0.heap[w.heap.size]? = some (.cells #[.slice AE nE cE, .slice AC nC cC, .slice AF fin.length cF, .slice AX edges.length cX, .slice (some ⟨b, off, none⟩) ev.length cV, .slice AS cs.length cS, .int .i64 en] 83 (0, 0)) := by rw [← hW0]; exact box_alloc (heap_alloc_new w _)
  have gt : W0.heap[w.heap.size + 1]? = some (.cells #[.int .i64 to_] 3 (0, 0)) := by
    rw [← hW0]
    have := heap_alloc_new (w.alloc (.cells #[.slice AE nE cE, .slice AC nC cC, .slice AF fin.length cF, .slice AX edges.length cX, .slice (some ⟨b, off, none⟩) ev.length cV, .slice AS cs.length cS, .int .i64 en] 83)) (.cells #[.int .i64 to_] 3)
    rwa [World.size_alloc] at this
  obtain ⟨_, _, _, _, x4, _, _⟩ := box7 gx
  have e1 := (hb0.cell (p := ⟨b, off + k, none⟩) hb).trans e0
  generalize ev[k] = s at *
  obtain ⟨sA, sc, l⟩ := s
  dsimp only at *
  have HW0 := hide hW0
  have HI := hide hints
  have HS := hide hs
  clear hW0 gx hev e0 hints hs
  go_enter Try.func80, Try.ntmps80
  go_upto_region 1 with (fail)
  rw [HW0.out]
  go_wp2_with fail
  obtain ⟨W1, hW1⟩ : ∃ W1 : World, W0.alloc (.cells #[.slice sA l.length sc] 36) = W1 := ⟨_, rfl⟩
  have hb1 : Below W0.heap.size W0 W1 := by rw [← hW1]; exact (Below.refl _ _).alloc (Nat.le_refl _) _
  have gl : W1.heap[W0.heap.size]? = some (.cells #[.slice sA l.length sc] 36 (0, 0)) := by rw [← hW1]; exact heap_alloc_new W0 _
  have gt1 := (hb1.block _ (box_lt gt)).trans gt
  have hz0 : W0.heap.size < W1.heap.size := box_lt gl
  have hz1 : w.heap.size + 1 < W0.heap.size := box_lt gt
  rw [hW1]
  have HP := hide (show ∀ (q : Nat) (W2 : World), W1.drewN q = W2 → TimesPost sA sc l from_ to_ w (.returned (.func (.func 100) #[] #[.pointer (some ⟨W2.heap.size, 0, none⟩), .pointer (some ⟨W0.heap.size, 0, none⟩), .pointer (some ⟨w.heap.size + 1, 0, none⟩)])) (W2.alloc (.cells #[.int .i64 (l.countP (· < from_) : Nat)] 3)) from fun q W2 hW2 => by
    subst hW2
    refine ⟨_, _, _, rfl, ?_, by simp; omega, by omega, by omega, by simp; omega, by simp; omega, ?_, ?_, ?_⟩
    · exact bstep hb0 ((below_drewN hb1 q).alloc hb1.size _)
    · exact heap_alloc_new (W1.drewN q) _
    · exact box_alloc (w := W1.drewN q) gl
    · exact box_alloc (w := W1.drewN q) gt1)
  have HI1 := hide ((HI.out.step hb0).step hb1)
  clear hW1 hb1 gl gt1 hz0 hz1 gt hb0 e1 x4 hb
  refine (bin_any sA sc l from_ W1 HI1.out hl HS.out).mono ?_
  rintro e w2 ⟨rfl, q, rfl⟩
  generalize l.countP (· < from_) = cp at *
  obtain ⟨W2, hW2⟩ : ∃ W2, W1.drewN q = W2 := ⟨_, rfl⟩
  have HP2 := hide (HP.out q W2 hW2)
  rw [hW2]
  clear hW2 HP
  go_wp2_with fail
  go_ret
  exact HP2.out

end Go.Proofs.Ytkbiefklilelmaa

/-
  slices.BinarySearchFunc in a normal list, with the closure of match.input.holds.
-/
namespace Go.Proofs.Ytkbiefklilelmaa
open Go.RowKit

theorem holds1_any (a b t : Int) (w : World) (hb : I64 (b - t)) :
    Calls Try.prog 105 #[.agg #[.int .i64 a, .int .i64 b], .int .i64 t] w fun e w' => e = .returned (.int .i64 (b - t)) ∧ Below w.heap.size w w' := by
  unfold I64 at hb
  go_enter Try.func105, Try.ntmps105
  go_wp2
  go_ret
  exact ⟨rfl, (Below.refl _ _).alloc (Nat.le_refl _) _⟩

/-- the first place from which the intervals do not end before t -/
def FirstAt (xs : List Iv) (t : Int) (i : Nat) : Prop := i ≤ xs.length ∧ (∀ j (_ : j < xs.length), j < i → xs[j].2 < t) ∧ ∀ j (_ : j < xs.length), i ≤ j → t ≤ xs[j].2
theorem norm_ends {xs : List Iv} (hn : Norm xs) : ∀ (i j : Nat) (hi : i < xs.length) (hj : j < xs.length), i ≤ j → xs[i].2 ≤ xs[j].2 := fun i j hi hj h => by
  rcases Nat.lt_or_ge i j with h1 | h1
  · have h2 := List.pairwise_iff_getElem.1 hn.2 i j hi hj h1
    have h3 := hn.1 _ (List.getElem_mem hj)
    unfold Okv at h3
    omega
  · have : i = j := by omega
    subst this
    exact Int.le_refl _
def BsfPost (xs : List Iv) (t : Int) (w : World) (e : Ending) (w' : World) : Prop := ∃ (i : Nat) (b : Bool), e = .returned (.tuple #[.int .i64 (i : Int), .bool b]) ∧ FirstAt xs t i ∧ Below w.heap.size w w'
def BsfRel (xs : List Iv) (t : Int) (W : World) (g : Nat) (s9 s10 : Value) (wr : World) : Prop :=
  ∃ lo hi : Nat, s9 = .int .i64 lo ∧ s10 = .int .i64 hi ∧ lo ≤ hi ∧ hi ≤ xs.length ∧ hi - lo ≤ g ∧ Below W.heap.size W wr ∧ (∀ j (_ : j < xs.length), j < lo → xs[j].2 < t) ∧ ∀ j (_ : j < xs.length), hi ≤ j → t ≤ xs[j].2

set_option maxRecDepth 100000 in
set_option maxHeartbeats 4000000 in
theorem bsf_any (A : Option Addr) (c : Nat) (xs : List Iv) (t : Int) (w : World) (h : IvsAt w w.heap.size A xs) (hn : Norm xs) (ht : 0 ≤ t ∧ t ≤ 1099511627777) :
    Calls Try.prog 104 #[.slice A xs.length c, .int .i64 t, .func (.func 105) #[] #[]] w (BsfPost xs t w) := by
  have hlen := norm_len hn
  have HN := hide hn
  clear hn
  go_enter Try.func104, Try.ntmps104
  go_wp2_with fail
  go_loopg [9, 10] xs.length (fun g s9 s10 wr => BsfRel xs t w g s9 s10 wr)
  case atStart => exact ⟨0, xs.length, rfl, rfl, Nat.zero_le _, Nat.le_refl _, by omega, Below.refl _ _, fun j _ hj => absurd hj (Nat.not_lt_zero _), fun j h1 h2 => by omega⟩
  case round =>
    obtain ⟨lo, hi, rfl, rfl, hlh, hin, hg, hbr, h1, h2⟩ := hrel
    have I := hide (And.intro h1 h2)
    have HBR := hide hbr
    clear h1 h2
    have hivs := (h.below hbr).more hbr.size
    by_cases hlt : lo < hi
    · obtain ⟨b, off, rfl, hbb, hc1, hc2⟩ := hivs.at_ (k := (lo + hi) / 2) (by omega)
      have hok := HN.out.1 _ (List.getElem_mem (show (lo + hi) / 2 < xs.length by omega))
      obtain ⟨y, hy⟩ : ∃ y, xs[(lo + hi) / 2]'(by omega) = y := ⟨_, rfl⟩
      rw [hy] at hc1 hc2 hok
      have HY := hide hy
      clear hy hbr hivs
      unfold Okv at hok
      obtain ⟨y1, y2⟩ := y
      dsimp only at *
      have hw0 : I64 (y2 - t) := by unfold I64; omega
      have HW0 := hide hw0
      clear hw0
      have HC := hide (norm_ends HN.out)
      by_cases s : y2 < t
      · have T1 : decide (y2 - t < 0) = true := decide_eq_true (by omega)
        have S := hide s
        clear s
        go_wp2_with ((with_reducible go_at_call 105); refine (holds1_any _ _ _ _ HW0.out).mono ?_; rintro e w2 ⟨rfl, hb2⟩)
        go_roundg (hi - ((lo + hi) / 2 + 1))
        case measure => omega
        case rel =>
          refine ⟨(lo + hi) / 2 + 1, hi, by rw [show ((lo : Int) + (hi : Int)) / 2 + 1 = (((lo + hi) / 2 + 1 : Nat) : Int) by omega], rfl, by omega, hin, Nat.le_refl _, bstep HBR.out hb2, fun j hj h => ?_, I.out.2⟩
          have h1 := HC.out j ((lo + hi) / 2) hj (by omega) (by omega)
          rw [HY.out] at h1
          have := S.out
          dsimp only at h1
          omega
      · have T1 : decide (y2 - t < 0) = false := decide_eq_false (by omega)
        have S := hide s
        clear s
        go_wp2_with ((with_reducible go_at_call 105); refine (holds1_any _ _ _ _ HW0.out).mono ?_; rintro e w2 ⟨rfl, hb2⟩)
        go_roundg ((lo + hi) / 2 - lo)
        case measure => omega
        case rel =>
          refine ⟨lo, (lo + hi) / 2, rfl, by rw [show ((lo : Int) + (hi : Int)) / 2 = (((lo + hi) / 2 : Nat) : Int) by omega], by omega, by omega, Nat.le_refl _, bstep HBR.out hb2, I.out.1, fun j hj h => ?_⟩
          have h1 := HC.out ((lo + hi) / 2) j (by omega) hj h
          rw [HY.out] at h1
          have := S.out
          dsimp only at h1
          omega
    · have : hi = lo := by omega
      subst this
      have HF := hide (show FirstAt xs t hi from ⟨hin, I.out.1, I.out.2⟩)
      by_cases hx : hi < xs.length
      · obtain ⟨b, off, rfl, hbb, hc1, hc2⟩ := hivs.at_ hx
        have hok := HN.out.1 _ (List.getElem_mem hx)
        obtain ⟨y, hy⟩ : ∃ y, xs[hi] = y := ⟨_, rfl⟩
        rw [hy] at hc1 hc2 hok
        clear hy hivs
        unfold Okv at hok
        obtain ⟨y1, y2⟩ := y
        dsimp only at *
        have T1 : decide (hi < xs.length) = true := decide_eq_true hx
        have hw0 : I64 (y2 - t) := by unfold I64; omega
        have HW0 := hide hw0
        clear hw0
        go_wp2_with fail
        refine (holds1_any _ _ _ _ HW0.out).mono ?_
        rintro e w2 ⟨rfl, hb2⟩
        go_wp2_with fail
        go_ret2
        exact ⟨hi, _, rfl, HF.out, bstep HBR.out hb2⟩
      · have T1 : decide (hi < xs.length) = false := decide_eq_false hx
        go_wp2_with fail
        go_ret2
        exact ⟨hi, _, rfl, HF.out, HBR.out⟩

/-- in a normal list: all times between two ones belong to the set just if one interval holds them all -/
theorem norm_span {xs : List Iv} (hn : Norm xs) {u v : Int} (hu : 0 ≤ u) (huv : u ≤ v) (_hv : v ≤ 1099511627776) {i : Nat} (hi : FirstAt xs u i) : (∀ t, u ≤ t → t ≤ v → Mem xs t) ↔ ∃ h : i < xs.length, xs[i].1 ≤ u ∧ v ≤ xs[i].2 := by
  have key : ∀ t, u ≤ t → Mem xs t → ∃ j, ∃ hj : j < xs.length, i ≤ j ∧ xs[j].1 ≤ t ∧ t ≤ xs[j].2 := fun t ht hm => by
    obtain ⟨_, _, x, hx, h1, h2⟩ := hm
    obtain ⟨j, hj, rfl⟩ := List.getElem_of_mem hx
    refine ⟨j, hj, ?_, h1, h2⟩
    rcases Nat.lt_or_ge j i with h3 | h3
    · have := hi.2.1 j hj h3
      omega
    · exact h3
  have far : ∀ a b (ha : a < xs.length) (hb : b < xs.length), a < b → xs[a].2 + 2 ≤ xs[b].1 := fun a b ha hb h => List.pairwise_iff_getElem.1 hn.2 a b ha hb h
  constructor
  · intro h
    obtain ⟨j, hj, hij, h1, h2⟩ := key u (Int.le_refl _) (h u (Int.le_refl _) huv)
    have hil : i < xs.length := by omega
    have e : j = i := by
      rcases Nat.lt_or_ge i j with h3 | h3
      · have h4 := far i j hil hj h3
        have h5 := hi.2.2 i hil (Nat.le_refl _)
        omega
      · omega
    subst e
    refine ⟨hj, h1, Int.not_lt.1 fun h3 => ?_⟩
    obtain ⟨k, hk, hik, h4, h5⟩ := key (xs[j].2 + 1) (by omega) (h _ (by omega) (by omega))
    rcases Nat.lt_or_ge j k with h6 | h6
    · have := far j k hj hk h6
      omega
    · have : k = j := by omega
      subst this
      omega
  · rintro ⟨h, h1, h2⟩ t ht htv
    have := hn.1 _ (List.getElem_mem h)
    unfold Okv at this
    exact ⟨by omega, by omega, _, List.getElem_mem h, by omega, by omega⟩

end Go.Proofs.Ytkbiefklilelmaa
