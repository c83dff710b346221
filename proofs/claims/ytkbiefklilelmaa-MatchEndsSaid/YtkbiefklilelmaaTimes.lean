/-
  match.input.times and its iterator: the times of an event within a range, one after the other.
-/
import Derived.Test.YtkbiefklilelmaaBin
import Derived.Test.YtkbiefklilelmaaMatchM
import Derived.Test.YtkbiefklilelmaaRangeBox
import Derived.Test.YtkbiefklilelmaaBase
import Derived.Sort.LoopGhostIn
import Derived.Sort.CutIn
import Derived.Sort.QuietIn
namespace Go.Proofs.Ytkbiefklilelmaa
open Go.RowKit Go.Shelf

attribute [local go_sem] Oper.semAt_some

/-- the three boxes of the iterator: its place in the list, the list, the greatest time -/
structure TBox (W : World) (Bi Bl Bt : Nat) (A : Option Addr) (n c : Nat) (i : Nat) (to_ : Int) : Prop where
  i : W.heap[Bi]? = some (.cells #[.int .i64 (i : Int)] 3 (0, 0))
  l : W.heap[Bl]? = some (.cells #[.slice A n c] 36 (0, 0))
  t : W.heap[Bt]? = some (.cells #[.int .i64 to_] 3 (0, 0))
/-- what a round keeps: all below a block, and the three boxes -/
def KpT (n₀ Bi Bl Bt : Nat) (W W' : World) : Prop := (∀ b, b < n₀ → W'.heap[b]? = W.heap[b]?) ∧ W'.heap[Bi]? = W.heap[Bi]? ∧ W'.heap[Bl]? = W.heap[Bl]? ∧ W'.heap[Bt]? = W.heap[Bt]?
theorem KpT.trans {n₀ Bi Bl Bt : Nat} {a b c : World} (h : KpT n₀ Bi Bl Bt a b) (k : KpT n₀ Bi Bl Bt b c) : KpT n₀ Bi Bl Bt a c :=
  ⟨fun j hj => (k.1 j hj).trans (h.1 j hj), k.2.1.trans h.2.1, k.2.2.1.trans h.2.2.1, k.2.2.2.trans h.2.2.2⟩
theorem TBox.keep {n₀ Bi Bl Bt : Nat} {W W' : World} {A : Option Addr} {n c i : Nat} {to_ : Int} (h : TBox W Bi Bl Bt A n c i to_) (k : KpT n₀ Bi Bl Bt W W') : TBox W' Bi Bl Bt A n c i to_ :=
  ⟨k.2.1.trans h.i, k.2.2.1.trans h.l, k.2.2.2.trans h.t⟩
/-- a time that a list holds -/
abbrev InL (L : List Int) := { t : Int // t ∈ L }
def tEnc {L : List Int} (t : InL L) : Array Value := #[.int .i64 t.1]
abbrev vals {L : List Int} (pre : List (InL L)) : List Int := pre.map Subtype.val

/-- between two rounds of the iterator's own loop -/
def TRel (n₀ Bi Bl Bt : Nat) (A : Option Addr) (c : Nat) (l : List Int) (i₀ : Nat) (to_ : Int) (J : List (InL (upTo l i₀ to_)) → World → Prop) (W : World) (g : Nat) (wr : World) : Prop :=
  ∃ i : Nat, g = l.length - i ∧ i ≤ l.length ∧ i₀ ≤ i ∧ (∃ pre : List (InL (upTo l i₀ to_)), vals pre ++ upTo l i to_ = upTo l i₀ to_ ∧ J pre wr) ∧ TBox wr Bi Bl Bt A l.length c i to_ ∧ ∀ b, b < n₀ → wr.heap[b]? = W.heap[b]?

set_option maxRecDepth 100000 in
set_option maxHeartbeats 2000000 in
theorem times1_in (n lp n₀ Bi Bl Bt : Nat) (A : Option Addr) (c i₀ : Nat) (l : List Int) (to_ : Int) (hn : 1 ≤ n) (hl : l.length ≤ 1000000) (hBi : n₀ ≤ Bi) (hBl : Bi ≠ Bl) (hBt : Bi ≠ Bt) (J Jx : List (InL (upTo l i₀ to_)) → World → Prop) (fJ : BoxFree Bi J)
    (hY : ∀ pre x W, J pre W → pre.length < l.length → YieldAt Fence.wide (n - 1) Try.prog lp (tEnc x) W fun e W' =>
      (e = .returned (.bool true) ∧ J (pre ++ [x]) W' ∧ KpT n₀ Bi Bl Bt W W') ∨ (e = .returned (.bool false) ∧ Jx (pre ++ [x]) W'))
    (W : World) (h : TBox W Bi Bl Bt A l.length c i₀ to_) (hi₀ : i₀ ≤ l.length) (hA : IntsAt W n₀ A l) (h0 : J [] W) :
    CallsIn Fence.wide n Try.prog 100 #[.func (.yield lp) #[] #[], .pointer (some ⟨Bi, 0, none⟩), .pointer (some ⟨Bl, 0, none⟩), .pointer (some ⟨Bt, 0, none⟩)] W fun e W' => (∃ v, e = .returned v) ∧
      ((∃ xs, vals xs = upTo l i₀ to_ ∧ J xs W') ∨ (∃ pre, vals pre <+: upTo l i₀ to_ ∧ Jx pre W')) := by
  refine callsIn_of_wp Try.func100 rfl trivial ?_ rfl
  simp only [Try.ntmps100, List.size_toArray, List.length_cons, List.length_nil, Nat.reduceAdd, Nat.reduceSub, Array.replicate_succ, Array.replicate_zero, List.push_toArray, List.append_toArray, List.nil_append, List.cons_append]
  gi_wp2_with fail
  gi_loopg [5] (l.length - i₀) (fun g _ wr => TRel n₀ Bi Bl Bt A c l i₀ to_ J W g wr)
  case atStart => exact ⟨i₀, rfl, hi₀, Nat.le_refl _, ⟨[], rfl, h0⟩, h, fun _ _ => rfl⟩
  case round =>
    obtain ⟨i, hg, hil, hi0, ⟨pre, hpre, hJ⟩, tb, hkeep⟩ := hrel
    have HPRE := hide hpre
    have HG := hide hg
    clear hpre hg
    have c1 := box_cell tb.i
    have c2 := box_cell tb.l
    have c3 := box_cell tb.t
    have f1 := box_frozen tb.i
    by_cases hlt : i < l.length
    · obtain ⟨b, off, rfl, hb, e0⟩ := hA.at_ hlt
      have e1 : wr.cell? ⟨b, off + i, none⟩ = some (.int .i64 l[i]) := (World.cell?_of_block (hkeep b hb)).trans e0
      have t1 : decide (i < l.length) = true := decide_eq_true hlt
      have HST := hide (fun h => upTo_step (to_ := to_) hlt h)
      have HFA := hide (fun h => upTo_far (to_ := to_) hlt h)
      generalize hx : l[i] = x at *
      have HX := hide hx
      clear hx e0
      by_cases hle : x ≤ to_
      · have t2 : decide (x ≤ to_) = true := decide_eq_true hle
        have HS := hide (HST.out hle)
        have hlen : pre.length < l.length := by
          have h1 := congrArg List.length HPRE.out
          rw [HS.out, List.length_append, List.length_cons, List.length_map] at h1
          have h2 := upTo_len l i₀ to_
          omega
        have hmem : x ∈ upTo l i₀ to_ := by rw [← HPRE.out, HS.out]; simp
        have HH := hide (show ∀ nq, YieldAt Fence.wide (n - 1) Try.prog lp #[.int .i64 x] (wr.drewN nq) fun e W' => (e = .returned (.bool true) ∧ J (pre ++ [⟨x, hmem⟩]) W' ∧ KpT n₀ Bi Bl Bt (wr.drewN nq) W') ∨ (e = .returned (.bool false) ∧ Jx (pre ++ [⟨x, hmem⟩]) W') from fun nq => hY pre ⟨x, hmem⟩ _ ((fJ _ _ hJ).2 nq) hlen)
        clear hle HST HFA
        gi_upto_region 0 with (fail)
        gi_quiet (fail)
        obtain ⟨fn, tmps, assign, body, hy, hR⟩ := HH.out nq
        gi_wp2
        refine hR.mono ?_
        rintro e W3 (⟨rfl, hJ3, hk3⟩ | ⟨rfl, hJx3⟩)
        · have tb3 := TBox.keep (W := wr.drewN nq) ⟨tb.i, tb.l, tb.t⟩ hk3
          have d1 := box_cell tb3.i
          have d2 := box_cell tb3.l
          have d3 := box_cell tb3.t
          have g1 := box_frozen tb3.i
          have HK3 := hide hk3
          have HJ3 := hide hJ3
          clear hk3 hJ3 c1 c2 c3 f1 e1 hy hR hJ
          gi_wp2
          gi_roundg (l.length - (i + 1))
          case measure => rw [HG.out]; omega
          case rel =>
            refine ⟨i + 1, rfl, by omega, by omega, ⟨pre ++ [⟨x, hmem⟩], ?_, (fJ _ _ HJ3.out).1 _⟩, ⟨?_, ?_, ?_⟩, ?_⟩
            · have h9 := HPRE.out; rw [HS.out] at h9; simpa using h9
            · have := box_set1 (u := .int .i64 ((i + 1 : Nat) : Int)) tb3.i
              exact this
            · exact box_set tb3.l (Ne.symm hBl)
            · exact box_set tb3.t (Ne.symm hBt)
            · intro b' hb'
              rw [Below.heap_setCell _ _ _ _ (by show b' ≠ Bi; omega), HK3.out.1 b' hb']
              exact hkeep b' hb'
        · gi_wp2
          refine bodyPost_ret (results_none rfl _ _ _) rfl ?_
          exact ⟨⟨_, rfl⟩, .inr ⟨pre ++ [⟨x, hmem⟩], ⟨upTo l (i + 1) to_, by have h9 := HPRE.out; rw [HS.out] at h9; simpa using h9⟩, hJx3⟩⟩
      · have t2 : decide (x ≤ to_) = false := decide_eq_false hle
        have HS := hide (HFA.out hle)
        have HE := hide (show vals pre = upTo l i₀ to_ by have h9 := HPRE.out; rwa [HS.out, List.append_nil] at h9)
        have HLE := hide hle
        clear hle HST HFA
        gi_upto_region 0 with (fail)
        gi_quiet (fail)
        gi_wp2
        go_end0
        exact ⟨⟨_, rfl⟩, .inl ⟨pre, HE.out, (fJ _ _ hJ).2 _⟩⟩
    · have t1 : decide (i < l.length) = false := decide_eq_false hlt
      have HE := hide (show vals pre = upTo l i₀ to_ by have h9 := HPRE.out; rwa [show upTo l i to_ = [] from upTo_end (by omega), List.append_nil] at h9)
      gi_upto_region 0 with (fail)
      gi_quiet (fail)
      gi_wp2
      go_end0
      exact ⟨⟨_, rfl⟩, .inl ⟨pre, HE.out, (fJ _ _ hJ).2 _⟩⟩

/-- the iterator's contract -/
theorem times_box (n n₀ Bi Bl Bt : Nat) (A : Option Addr) (c i₀ : Nat) (l : List Int) (to_ : Int) (hn : 1 ≤ n) (hl : l.length ≤ 1000000) (hBi : n₀ ≤ Bi) (hBl : Bi ≠ Bl) (hBt : Bi ≠ Bt) (w : World) (hz : n₀ ≤ w.heap.size) (h : TBox w Bi Bl Bt A l.length c i₀ to_) (hi₀ : i₀ ≤ l.length) (hA : IntsAt w n₀ A l) :
    SeqBox n Try.prog 100 #[.pointer (some ⟨Bi, 0, none⟩), .pointer (some ⟨Bl, 0, none⟩), .pointer (some ⟨Bt, 0, none⟩)] (tEnc (L := upTo l i₀ to_)) Bi (KpT n₀ Bi Bl Bt) (fun xs => vals xs = upTo l i₀ to_) (fun pre => vals pre <+: upTo l i₀ to_) l.length w := fun lp J Jx W hW fJ _ hY h0 =>
  times1_in n lp n₀ Bi Bl Bt A c i₀ l to_ hn hl hBi hBl hBt J Jx fJ hY W ⟨(hW.block _ (box_lt h.i)).trans h.i, (hW.block _ (box_lt h.l)).trans h.l, (hW.block _ (box_lt h.t)).trans h.t⟩ hi₀ (hA.keep fun _ hp => hW.cell (Nat.lt_of_lt_of_le hp hz)) h0

/-- what match.input.times returns: the iterator, with three boxes of its own -/
def TimesPost (A : Option Addr) (c : Nat) (l : List Int) (from_ to_ : Int) (w : World) (e : Ending) (w' : World) : Prop :=
  ∃ Bi Bl Bt : Nat, e = .returned (.func (.func 100) #[] #[.pointer (some ⟨Bi, 0, none⟩), .pointer (some ⟨Bl, 0, none⟩), .pointer (some ⟨Bt, 0, none⟩)]) ∧ Below w.heap.size w w' ∧ w.heap.size ≤ Bi ∧ w.heap.size ≤ Bl ∧ w.heap.size ≤ Bt ∧ Bi ≠ Bl ∧ Bi ≠ Bt ∧
    TBox w' Bi Bl Bt A l.length c (l.countP (· < from_)) to_

set_option maxRecDepth 100000 in
set_option maxHeartbeats 2000000 in
theorem times_any (x : MIn) (k : Nat) (hk : k < x.ev.length) (ei from_ to_ : Int) (he : ei = (k : Int)) (w : World) (h : MAt w x) (hl : x.ev[k].xs.length ≤ 1000000) (hs : x.ev[k].xs.Pairwise (· < ·)) (hn : x.ev.length ≤ 1000000) :
    Calls Try.prog 80 #[.agg (encX x).toArray, .int .i64 ei, .int .i64 from_, .int .i64 to_] w (TimesPost x.ev[k].A x.ev[k].c x.ev[k].xs from_ to_ w) := by
  subst he
  obtain ⟨⟨AE, nE, cE, AC, nC, cC, AF, cF, fin, AX, cX, edges⟩, AV, cV, ev, AS, cS, cs, en⟩ := x
  obtain ⟨_, hev, _⟩ := h
  dsimp only [encX, encA, List.cons_append, List.nil_append] at *
  obtain ⟨b, off, rfl, hb, e0, hints⟩ := hev.at_ hk
  obtain ⟨W0, hW0⟩ : ∃ W0 : World, (w.alloc (.cells #[.slice AE nE cE, .slice AC nC cC, .slice AF fin.length cF, .slice AX edges.length cX, .slice (some ⟨b, off, none⟩) ev.length cV, .slice AS cs.length cS, .int .i64 en] 83)).alloc (.cells #[.int .i64 to_] 3) = W0 := ⟨_, rfl⟩
  have hb0 : Below w.heap.size w W0 := by rw [← hW0]; exact ((Below.refl _ _).alloc (Nat.le_refl _) _).alloc (by simp) _
  have gx : W0.heap[w.heap.size]? = some (.cells #[.slice AE nE cE, .slice AC nC cC, .slice AF fin.length cF, .slice AX edges.length cX, .slice (some ⟨b, off, none⟩) ev.length cV, .slice AS cs.length cS, .int .i64 en] 83 (0, 0)) := by rw [← hW0]; exact box_alloc (heap_alloc_new w _)
  have gt : W0.heap[w.heap.size + 1]? = some (.cells #[.int .i64 to_] 3 (0, 0)) := by
    rw [← hW0]
    have := heap_alloc_new (w.alloc (.cells #[.slice AE nE cE, .slice AC nC cC, .slice AF fin.length cF, .slice AX edges.length cX, .slice (some ⟨b, off, none⟩) ev.length cV, .slice AS cs.length cS, .int .i64 en] 83)) (.cells #[.int .i64 to_] 3)
    rwa [World.size_alloc] at this
  obtain ⟨_, _, _, _, x4, _, _⟩ := box7 gx
  have e1 := (hb0.cell (p := ⟨b, off + k, none⟩) hb).trans e0
  generalize ev[k] = s at *
  obtain ⟨sA, sc, l⟩ := s
  dsimp only at *
  have HW0 := hide hW0
  have HI := hide hints
  have HS := hide hs
  clear hW0 gx hev e0 hints hs
  go_enter Try.func80, Try.ntmps80
  go_upto_region 1 with (fail)
  rw [HW0.out]
  go_wp2_with fail
  obtain ⟨W1, hW1⟩ : ∃ W1 : World, W0.alloc (.cells #[.slice sA l.length sc] 36) = W1 := ⟨_, rfl⟩
  have hb1 : Below W0.heap.size W0 W1 := by rw [← hW1]; exact (Below.refl _ _).alloc (Nat.le_refl _) _
  have gl : W1.heap[W0.heap.size]? = some (.cells #[.slice sA l.length sc] 36 (0, 0)) := by rw [← hW1]; exact heap_alloc_new W0 _
  have gt1 := (hb1.block _ (box_lt gt)).trans gt
  have hz0 : W0.heap.size < W1.heap.size := box_lt gl
  have hz1 : w.heap.size + 1 < W0.heap.size := box_lt gt
  rw [hW1]
  have HP := hide (show ∀ (q : Nat) (W2 : World), W1.drewN q = W2 → TimesPost sA sc l from_ to_ w (.returned (.func (.func 100) #[] #[.pointer (some ⟨W2.heap.size, 0, none⟩), .pointer (some ⟨W0.heap.size, 0, none⟩), .pointer (some ⟨w.heap.size + 1, 0, none⟩)])) (W2.alloc (.cells #[.int .i64 (l.countP (· < from_) : Nat)] 3)) from fun q W2 hW2 => by
    subst hW2
    refine ⟨_, _, _, rfl, ?_, by simp; omega, by omega, by omega, by simp; omega, by simp; omega, ?_, ?_, ?_⟩
    · exact bstep hb0 ((below_drewN hb1 q).alloc hb1.size _)
    · exact heap_alloc_new (W1.drewN q) _
    · exact box_alloc (w := W1.drewN q) gl
    · exact box_alloc (w := W1.drewN q) gt1)
  have HI1 := hide ((HI.out.step hb0).step hb1)
  clear hW1 hb1 gl gt1 hz0 hz1 gt hb0 e1 x4 hb
  refine (bin_any sA sc l from_ W1 HI1.out hl HS.out).mono ?_
  rintro e w2 ⟨rfl, q, rfl⟩
  generalize l.countP (· < from_) = cp at *
  obtain ⟨W2, hW2⟩ : ∃ W2, W1.drewN q = W2 := ⟨_, rfl⟩
  have HP2 := hide (HP.out q W2 hW2)
  rw [hW2]
  clear hW2 HP
  go_wp2_with fail
  go_ret
  exact HP2.out

end Go.Proofs.Ytkbiefklilelmaa
