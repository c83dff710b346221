/-
  Several texts in one: Iter47, RunsP, RowsP, SmallP, Value47, QuietB, Nd. Each says at its head what it holds.
-/
import Derived.Test.YtbhcmnfeeogdhaaGreatDoorES9
import Derived.Sort.LoopGhostIn
import Derived.Sort.CutIn
import Derived.Sort.QuietIn
import Derived.Test.YtbhcmnfeeogdhaaGreatDoorES7
import Derived.Test.YtbhcmnfeeogdhaaGreatDoorES8
import Derived.Test.YtbhcmnfeeogdhaaGreatDoorES4
import Derived.Test.YtbhcmnfeeogdhaaGreatDoorES3
import Derived.Deep.DeepCutAuto
import Derived.Deep.QuietTactic
import Derived.BigQuiet
import Derived.IntWalk
import Derived.Test.YtbhcmnfeeogdhaaGreatDoorES2

/-
  The iterator of runs.changes: the changes of a signal behind a time, up to another one.
-/
namespace Go.Proofs.YtbhcmnfeeogdhaaGreatDoor
open Go.RowKit Go.Shelf

attribute [local go_sem] Oper.semAt_some

/-- the changes behind a time, up to another one -/
def beh (cs : List Chg) (t to_ : Int) : List Chg := cs.filter fun c => decide (t < c.time) && decide (c.time ≤ to_)
def Sorted47 (cs : List Chg) : Prop := cs.Pairwise fun a b => a.time < b.time
theorem beh_none {cs : List Chg} {t to_ : Int} (h : nextC t cs = none) : beh cs t to_ = [] := by
  unfold nextC at h
  rw [List.find?_eq_none] at h
  unfold beh
  rw [List.filter_eq_nil_iff]
  intro c hc
  have := h c hc
  simp at this ⊢
  omega
theorem beh_step : ∀ {cs : List Chg} {t to_ : Int} {c : Chg}, Sorted47 cs → nextC t cs = some c → t < c.time ∧ (c.time ≤ to_ → beh cs t to_ = c :: beh cs c.time to_) ∧ (to_ < c.time → beh cs t to_ = [])
  | [], _, _, _, _, h => by cases h
  | a :: r, t, to_, c, hs, h => by
    unfold Sorted47 at hs
    rw [List.pairwise_cons] at hs
    unfold nextC at h
    rw [List.find?_cons] at h
    by_cases ha : t < a.time
    · rw [decide_eq_true ha] at h
      injection h with h
      subst h
      refine ⟨ha, fun hle => ?_, fun hlt => ?_⟩
      · unfold beh
        rw [List.filter_cons, if_pos (by simp; omega), List.filter_cons, if_neg (by simp)]
        congr 1
        refine List.filter_congr fun x hx => ?_
        have := hs.1 x hx
        rw [decide_eq_true (show t < x.time by omega), decide_eq_true this]
      · unfold beh
        rw [List.filter_eq_nil_iff]
        intro x hx
        rcases List.mem_cons.1 hx with rfl | hx
        · simp; omega
        · have := hs.1 x hx
          simp; omega
    · rw [decide_eq_false ha] at h
      obtain ⟨h1, h2, h3⟩ := beh_step (to_ := to_) hs.2 h
      have e1 : beh (a :: r) t to_ = beh r t to_ := by unfold beh; rw [List.filter_cons, if_neg (by simp; omega)]
      have e2 : beh (a :: r) c.time to_ = beh r c.time to_ := by unfold beh; rw [List.filter_cons, if_neg (by simp; omega)]
      rw [e1, e2]
      exact ⟨h1, h2, h3⟩
theorem beh_mem {cs : List Chg} {t to_ : Int} {c : Chg} (h : c ∈ beh cs t to_) : c ∈ cs ∧ t < c.time ∧ c.time ≤ to_ := by
  unfold beh at h
  rw [List.mem_filter] at h
  simpa using h
theorem beh_len (cs : List Chg) (t to_ : Int) : (beh cs t to_).length ≤ cs.length := List.length_filter_le _ _

/-- the boxes that the iterator has caught: from, the source, the signal, the error's place, to -/
structure ChB (W : World) (Bf Bs Bg Be Bt : Nat) (f g t : Int) (M E : Nat) : Prop where
  f : W.heap[Bf]? = some (.cells #[.int .i64 f] 3 (0, 0))
  s : W.heap[Bs]? = some (.cells #[srcV M] 81 (0, 0))
  g : W.heap[Bg]? = some (.cells #[.int .i64 g] 3 (0, 0))
  e : W.heap[Be]? = some (.cells #[.pointer (some ⟨E, 0, none⟩)] 161 (0, 0))
  t : W.heap[Bt]? = some (.cells #[.int .i64 t] 3 (0, 0))
theorem ChB.keep {W W' : World} {Bf Bs Bg Be Bt : Nat} {f g t : Int} {M E : Nat} (h : ChB W Bf Bs Bg Be Bt f g t M E) (hk : ∀ b, b = Bf ∨ b = Bs ∨ b = Bg ∨ b = Be ∨ b = Bt → W'.heap[b]? = W.heap[b]?) : ChB W' Bf Bs Bg Be Bt f g t M E :=
  ⟨(hk _ (by simp)).trans h.f, (hk _ (by simp)).trans h.s, (hk _ (by simp)).trans h.g, (hk _ (by simp)).trans h.e, (hk _ (by simp)).trans h.t⟩
def errO (e : Int) : Obj := .cells #[.int .i64 e] 33 (0, 0)
theorem set_cell_other {W : World} {a b j : Nat} {v : Value} (h : b ≠ a) : (W.setCell ⟨a, j, none⟩ v).heap[b]? = W.heap[b]? := by
  simp [World.setCell, Array.getElem?_modify]
  intro e; exact absurd e.symm h
/-- the iterator's own steps: the source's count, the error, new blocks -/
def StepR (M E : Nat) (W W' : World) : Prop := W'.os = W.os ∧ W'.tape = W.tape ∧ W'.output = W.output ∧ W.heap.size ≤ W'.heap.size ∧ ∀ b, b < W.heap.size → b ≠ M → b ≠ E → W'.heap[b]? = W.heap[b]?
/-- what a round keeps: the source with its wave, the error, the boxes -/
def KpC (M E Bf Bs Bg Be Bt : Nat) (W W' : World) : Prop := (∀ b, b ≤ M ∨ b = E ∨ b = Bf ∨ b = Bs ∨ b = Bg ∨ b = Be ∨ b = Bt → W'.heap[b]? = W.heap[b]?) ∧
  ∀ (b : Nat) (cs : Array Value), W.heap[b]? = some (.cells cs 67 (0, 0)) → W'.heap[b]? = some (.cells cs 67 (0, 0))
def chEnc (c : Chg) : Array Value := #[.agg #[.int .i64 c.time, .string c.val]]
/-- how it ends: all changes were handed on, or the source's limit was met -/
def EndC (v : Wv) (L c : Int) (M E : Nat) (all : List Chg) (xs : List Chg) (W : World) : Prop :=
  (xs = all ∧ (L < 0 ∨ c + all.length + 1 ≤ L) ∧ SourceAt W M v L (c + all.length + 1) ∧ W.heap[E]? = some (errO 0)) ∨
  (0 ≤ L ∧ L < c + all.length + 1 ∧ (∃ c', SourceAt W M v L c') ∧ W.heap[E]? = some (errO 14))

theorem StepR.of {M E : Nat} {W W' : World} (h : But W.heap.size (some M) W W') : StepR M E W W' := ⟨h.os, h.tape, h.output, h.size, fun b hb hm _ => h.block b hb (fun e => by injection e with e; exact hm e)⟩
theorem StepR.trans {M E : Nat} {a b c : World} (h : StepR M E a b) (k : StepR M E b c) : StepR M E a c :=
  ⟨k.1.trans h.1, k.2.1.trans h.2.1, k.2.2.1.trans h.2.2.1, Nat.le_trans h.2.2.2.1 k.2.2.2.1, fun j hj h1 h2 => (k.2.2.2.2 j (Nat.lt_of_lt_of_le hj h.2.2.2.1) h1 h2).trans (h.2.2.2.2 j hj h1 h2)⟩
theorem StepR.below {M E : Nat} {W W' : World} (h : Below W.heap.size W W') : StepR M E W W' := ⟨h.os, h.tape, h.output, h.size, fun b hb _ _ => h.block b hb⟩
theorem StepR.err {M E : Nat} {W : World} (u : Value) : StepR M E W (W.setCell ⟨E, 0, none⟩ u) := ⟨rfl, rfl, rfl, by simp [World.setCell], fun b _ _ h2 => set_cell_other h2⟩
theorem ChB.step {W W' : World} {Bf Bs Bg Be Bt : Nat} {f g t : Int} {M E : Nat} (h : ChB W Bf Bs Bg Be Bt f g t M E) (hb : StepR M E W W') (hM : Bf ≠ M ∧ Bs ≠ M ∧ Bg ≠ M ∧ Be ≠ M ∧ Bt ≠ M) (hE : Bf ≠ E ∧ Bs ≠ E ∧ Bg ≠ E ∧ Be ≠ E ∧ Bt ≠ E) : ChB W' Bf Bs Bg Be Bt f g t M E :=
  ⟨(hb.2.2.2.2 _ (box_lt h.f) hM.1 hE.1).trans h.f, (hb.2.2.2.2 _ (box_lt h.s) hM.2.1 hE.2.1).trans h.s, (hb.2.2.2.2 _ (box_lt h.g) hM.2.2.1 hE.2.2.1).trans h.g, (hb.2.2.2.2 _ (box_lt h.e) hM.2.2.2.1 hE.2.2.2.1).trans h.e, (hb.2.2.2.2 _ (box_lt h.t) hM.2.2.2.2 hE.2.2.2.2).trans h.t⟩
/-- between two rounds -/
def CRel (v : Wv) (L c : Int) (M E Bf Bs Bg Be Bt : Nat) (k : Int) (cs : List Chg) (f to_ : Int) (J : List Chg → World → Prop) (g : Nat) (tv : Value) (wr : World) : Prop :=
  ∃ (t : Int) (pre : List Chg), tv = .int .i64 t ∧ f ≤ t ∧ t ≤ to_ ∧ pre ++ beh cs t to_ = beh cs f to_ ∧ g = (beh cs t to_).length ∧ J pre wr ∧ ChB wr Bf Bs Bg Be Bt f k to_ M E ∧ SourceAt wr M v L (c + pre.length) ∧ wr.heap[E]? = some (errO 0)

def IterP (J Jx : List Chg → World → Prop) (v : Wv) (L c : Int) (M E : Nat) (all : List Chg) (e : Ending) (W' : World) : Prop :=
  (∃ v, e = .returned v) ∧ ((∃ xs, True ∧ J xs W' ∧ EndC v L c M E all xs W') ∨ (∃ pre, True ∧ Jx pre W'))
set_option maxRecDepth 100000 in
set_option maxHeartbeats 2000000 in
theorem iter_in (n lp : Nat) (v : Wv) (L c : Int) (M E Bf Bs Bg Be Bt k : Nat) (s : Sgn) (f to_ : Int) (hn : 1 ≤ n) (hs : v.sigs[k]? = some s) (hcs : Sorted47 s.chs) (hl : s.chs.length ≤ 1000) (h0 : 0 ≤ c) (h1 : c ≤ 900000) (hf : -1 ≤ f) (hft : f ≤ to_) (hto : to_ ≤ v.fin) (hME : M < E)
    (hBM : Bf ≠ M ∧ Bs ≠ M ∧ Bg ≠ M ∧ Be ≠ M ∧ Bt ≠ M) (hE : Bf ≠ E ∧ Bs ≠ E ∧ Bg ≠ E ∧ Be ≠ E ∧ Bt ≠ E) (J Jx : List Chg → World → Prop) (fJ : RFree (StepR M E) J)
    (hY : ∀ pre x W, J pre W → pre.length < s.chs.length → YieldAt Fence.wide (n - 1) Tryz.prog lp (chEnc x) W fun e W' =>
      (e = .returned (.bool true) ∧ J (pre ++ [x]) W' ∧ KpC M E Bf Bs Bg Be Bt W W') ∨ (e = .returned (.bool false) ∧ Jx (pre ++ [x]) W'))
    (W : World) (h : ChB W Bf Bs Bg Be Bt f k to_ M E) (hsr : SourceAt W M v L c) (he : W.heap[E]? = some (errO 0)) (hJ0 : J [] W) :
    CallsIn Fence.wide n Tryz.prog 140 #[.func (.yield lp) #[] #[], .pointer (some ⟨Bf, 0, none⟩), .pointer (some ⟨Bs, 0, none⟩), .pointer (some ⟨Bg, 0, none⟩), .pointer (some ⟨Be, 0, none⟩), .pointer (some ⟨Bt, 0, none⟩)] W (IterP J Jx v L c M E (beh s.chs f to_)) := by
  refine callsIn_of_wp Tryz.func140 rfl trivial ?_ rfl
  simp only [Tryz.ntmps140, List.size_toArray, List.length_cons, List.length_nil, Nat.reduceAdd, Nat.reduceSub, Array.replicate_succ, Array.replicate_zero, List.push_toArray, List.append_toArray, List.nil_append, List.cons_append]
  have f1 := box_cell h.f
  gi_wp2_with fail
  gi_loopg [7] (beh s.chs f to_).length (fun g tv wr => CRel v L c M E Bf Bs Bg Be Bt k s.chs f to_ J g tv wr)
  case atStart => exact ⟨f, [], rfl, Int.le_refl _, hft, rfl, rfl, hJ0, h, by simpa using hsr, he⟩
  case round =>
    obtain ⟨t, pre, rfl, ht0, ht1, hpre, hg, hJ, hb, hsr, he⟩ := hrel
    have b1 := box_cell hb.f
    have b2 := box_cell hb.s
    have b3 := box_cell hb.g
    have b4 := box_cell hb.e
    have b5 := box_cell hb.t
    unfold srcV at b2
    have hm := meth_next (some ⟨M, 0, none⟩)
    have hk : k < v.sigs.length := (List.getElem?_eq_some_iff.1 hs).1
    have HPRE := hide hpre
    have hplen : pre.length + (beh s.chs t to_).length = (beh s.chs f to_).length := by rw [← hpre, List.length_append]
    have hal := beh_len s.chs f to_
    have HG := hide hg
    have HJ := hide hJ
    have HB := hide hb
    have HSR := hide hsr
    have HE := hide he
    clear hpre hg hJ hb hsr he
    by_cases hth : 0 ≤ L ∧ L < c + pre.length + 1
    · have hq : callC L (c + pre.length) k v.sigs.length = 14 := by unfold callC; rw [if_pos hth]
      have HNX := hide (next_err M v L (c + pre.length) k t wr HSR.out (by omega) (by omega) 14 hq (by decide))
      clear hq
      gi_wp2_with fail
      refine ⟨trivial, (callsIn_wide.2 HNX.out).mono ?_⟩
      rintro e w2 ⟨rfl, hs2⟩
      have hst : StepR M E wr w2 := StepR.of hs2.2
      have hb2 := HB.out.step hst hBM hE
      have he2 : w2.heap[E]? = some (errO 0) := (hs2.2.block E (box_lt HE.out) (fun e => by injection e with e; omega)).trans HE.out
      have z4 := box_cell hb2.e
      have fe := box_frozen he2
      have ce := box_cell he2
      have HS2 := hide hs2
      have HST := hide hst
      have HE2 := hide he2
      have hlE := box_lt he2
      have hle := box_lt hb2.e
      clear hs2 hst hb2 he2 b1 b2 b3 b4 b5 HNX
      gi_wp2_with fail
      refine bodyPost_ret (results_none rfl _ _ _) rfl ?_
      have hgo : ∀ W9, W9 = w2.setCell ⟨E, 0, none⟩ (.int .i64 14) → StepR M E wr W9 ∧ SourceAt W9 M v L (c + pre.length + 1) ∧ W9.heap[E]? = some (errO 14) := fun W9 h => by
        subst h
        refine ⟨HST.out.trans (StepR.err _), HS2.out.1.keep fun b hb => set_cell_other (by omega), ?_⟩
        have := HE2.out
        unfold errO at this ⊢
        simp [World.setCell, Array.getElem?_modify, this]
      have HGO := hide hgo
      clear hgo
      obtain ⟨y1, y2, y3⟩ := HGO.out _ rfl
      have hbA : ∀ (W9 : World) o, Below W9.heap.size W9 (W9.alloc o) := fun W9 o => (Below.refl _ _).alloc (Nat.le_refl _) _
      refine ⟨⟨_, rfl⟩, .inl ⟨pre, trivial, fJ _ _ _ HJ.out (y1.trans (StepR.below (hbA _ _))), .inr ⟨hth.1, by omega, ⟨_, y2.below (hbA _ _)⟩, box_alloc y3⟩⟩⟩
    · have hq : callC L (c + pre.length) k v.sigs.length = 0 := by unfold callC; rw [if_neg hth, if_neg (by omega)]
      have hroom : L < 0 ∨ c + pre.length + 1 ≤ L := by omega
      have HNX := hide (next_ok M v L (c + pre.length) t k wr HSR.out (by omega) (by omega) hq s hs (by omega) (by omega) hl)
      clear hq hth
      have hbA : ∀ (W9 : World) o, Below W9.heap.size W9 (W9.alloc o) := fun W9 o => (Below.refl _ _).alloc (Nat.le_refl _) _
      have HBA := hide hbA
      cases hnc : nextC t s.chs with
      | none =>
        have hrem := beh_none (to_ := to_) hnc
        have hv : nextV t s.chs = .tuple #[.agg #[.int .i64 0, .string ⟨#[]⟩], .int .i64 6] := by unfold nextV; rw [hnc]
        rw [hv] at HNX
        have hpe : pre = beh s.chs f to_ := by have := HPRE.out; rwa [hrem, List.append_nil] at this
        have HPE := hide hpe
        clear hnc hrem hv hpe hbA
        gi_wp2_with fail
        refine ⟨trivial, (callsIn_wide.2 HNX.out).mono ?_⟩
        rintro e w2 ⟨rfl, hs2⟩
        have HS2 := hide hs2
        have hst : StepR M E wr w2 := StepR.of hs2.2
        have HST := hide hst
        have HE2 := hide (show w2.heap[E]? = some (errO 0) from (hs2.2.block E (box_lt HE.out) (fun e => by injection e with e; omega)).trans HE.out)
        clear hs2 hst b1 b2 b3 b4 b5 HNX
        gi_wp2_with fail
        refine bodyPost_ret (results_none rfl _ _ _) rfl ?_
        refine ⟨⟨_, rfl⟩, .inl ⟨pre, trivial, fJ _ _ _ HJ.out (HST.out.trans (StepR.below (HBA.out _ _))), .inl ⟨HPE.out, by rw [← HPE.out]; exact hroom, by rw [← HPE.out]; exact HS2.out.1.below (HBA.out _ _), box_alloc HE2.out⟩⟩⟩
      | some cg =>
        obtain ⟨g1, g2, g3⟩ := beh_step (to_ := to_) hcs hnc
        have hv : nextV t s.chs = .tuple #[.agg #[.int .i64 cg.time, .string cg.val], .int .i64 0] := by unfold nextV; rw [hnc]
        rw [hv] at HNX
        have hmem : cg.time ≤ to_ → pre.length < s.chs.length := fun h => by have h2 := g2 h; rw [h2] at hplen; simp at hplen; omega
        have HMEM := hide hmem
        have G2 := hide g2
        have G3 := hide g3
        obtain ⟨ct, cv⟩ := cg
        dsimp only at *
        clear hnc hv hbA g2 g3 hmem
        gi_wp2_with fail
        refine ⟨trivial, (callsIn_wide.2 HNX.out).mono ?_⟩
        rintro e w2 ⟨rfl, hs2⟩
        have HS2 := hide hs2
        have hst : StepR M E wr w2 := StepR.of hs2.2
        have hb2 := HB.out.step hst hBM hE
        have z5 := box_cell hb2.t
        have l5 := box_lt hb2.t
        have HB2 := hide hb2
        have HST := hide hst
        have HE2 := hide (show w2.heap[E]? = some (errO 0) from (hs2.2.block E (box_lt HE.out) (fun e => by injection e with e; omega)).trans HE.out)
        clear hs2 hst hb2 b1 b2 b3 b4 b5 HNX
        by_cases hle : ct ≤ to_
        · have hJ2 := fJ _ _ _ HJ.out (HST.out.trans (StepR.below (HBA.out w2 (.cells #[.int .i64 ct, .string cv] 67))))
          have HY := hide (hY pre ⟨ct, cv⟩ _ hJ2 (HMEM.out hle))
          unfold chEnc at HY
          dsimp only at HY
          have HREM := hide (G2.out hle)
          clear hJ2 G2 G3
          obtain ⟨fn, tmps, assign, body, hy, hR⟩ := HY.out
          have HR := hide hR
          clear hR HY
          gi_wp2_with fail
          refine HR.out.mono ?_
          rintro e W3 (⟨rfl, hJ3, hk3⟩ | ⟨rfl, hJx3⟩)
          · have hb3 := (HB2.out.step (StepR.below (HBA.out w2 (.cells #[.int .i64 ct, .string cv] 67))) hBM hE).keep (W' := W3) (fun b hb => hk3.1 b (by rcases hb with h | h | h | h | h <;> simp [h]))
            have HB3 := hide hb3
            have HS3 := hide ((HS2.out.1.below (HBA.out w2 (.cells #[.int .i64 ct, .string cv] 67))).keep (w' := W3) (fun b hb => hk3.1 b (.inl hb)))
            have HE3 := hide ((hk3.1 E (by simp)).trans (box_alloc (o' := .cells #[.int .i64 ct, .string cv] 67) HE2.out))
            have HJ3 := hide hJ3
            have hc3 := hk3.2 w2.heap.size #[.int .i64 ct, .string cv] (heap_alloc_new w2 _)
            have z1 := (box2 hc3).1
            clear hb3 hk3 hJ3 hc3 hy z5 l5
            gi_wp2
            gi_roundg (beh s.chs ct to_).length
            case measure => rw [HG.out, HREM.out]; simp
            case rel =>
              refine ⟨ct, pre ++ [⟨ct, cv⟩], rfl, by omega, hle, ?_, rfl, HJ3.out, HB3.out, ?_, HE3.out⟩
              · have h9 := HPRE.out; rw [HREM.out] at h9; simpa using h9
              · have h9 := HS3.out; rw [show c + ((pre ++ [(⟨ct, cv⟩ : Chg)]).length : Int) = c + pre.length + 1 by simp; omega]; exact h9
          · gi_wp2
            refine bodyPost_ret (results_none rfl _ _ _) rfl ?_
            exact ⟨⟨_, rfl⟩, .inr ⟨_, trivial, hJx3⟩⟩
        · have hrem := G3.out (by omega)
          have hpe : pre = beh s.chs f to_ := by have := HPRE.out; rwa [hrem, List.append_nil] at this
          have HPE := hide hpe
          clear hrem hpe G2 G3 HMEM
          gi_wp2_with fail
          refine ⟨fun _ h => (by cases h), ?_⟩
          gi_wp2_with fail
          refine bodyPost_ret (results_none rfl _ _ _) rfl ?_
          refine ⟨⟨_, rfl⟩, .inl ⟨pre, trivial, fJ _ _ _ HJ.out (HST.out.trans (StepR.below (HBA.out _ _))), .inl ⟨HPE.out, by rw [← HPE.out]; exact hroom, by rw [← HPE.out]; exact HS2.out.1.below (HBA.out _ _), box_alloc HE2.out⟩⟩⟩

end Go.Proofs.YtbhcmnfeeogdhaaGreatDoor

/-
  What runs.Of builds: the spans of a signal, plain.
-/
namespace Go.Proofs.YtbhcmnfeeogdhaaGreatDoor

theorem foldV_cons (t : Int) (a : Chg) (r : List Chg) (v : ByteArray) : foldV t (a :: r) v = foldV t r (if a.time ≤ t then a.val else v) := rfl
theorem foldV_same {t t' : Int} (ht : t ≤ t') : ∀ (cs : List Chg) (v : ByteArray), (∀ c ∈ cs, ¬ (t < c.time ∧ c.time ≤ t')) → foldV t' cs v = foldV t cs v
  | [], _, _ => rfl
  | a :: r, v, h => by
    have ha := h a (by simp)
    rw [foldV_cons, foldV_cons, foldV_same ht r _ fun c hc => h c (by simp [hc])]
    congr 1
    by_cases h1 : a.time ≤ t
    · rw [if_pos h1, if_pos (by omega)]
    · rw [if_neg h1, if_neg (by omega)]
theorem foldV_none {t : Int} : ∀ (cs : List Chg) (v : ByteArray), (∀ c ∈ cs, t < c.time) → foldV t cs v = v
  | [], _, _ => rfl
  | a :: r, v, h => by
    have ha := h a (by simp)
    rw [foldV_cons, if_neg (by omega), foldV_none r v fun c hc => h c (by simp [hc])]
theorem foldV_at : ∀ {cs : List Chg} {c : Chg} (v : ByteArray), Sorted47 cs → c ∈ cs → foldV c.time cs v = c.val
  | a :: r, c, v, hs, hc => by
    unfold Sorted47 at hs
    rw [List.pairwise_cons] at hs
    rcases List.mem_cons.1 hc with rfl | hc
    · rw [foldV_cons, if_pos (Int.le_refl _)]
      exact foldV_none r _ hs.1
    · rw [foldV_cons]
      exact foldV_at _ hs.2 hc

/-- the list so far, and what may stand behind it -/
def OutOk (g : Int → ByteArray) (cs : List Chg) (a t : Int) (out : List Spn) : Prop :=
  ∃ l x, out = l ++ [x] ∧ ∀ e, t ≤ e → (∀ c ∈ cs, ¬ (t < c.time ∧ c.time ≤ e)) → Spans g a e (l ++ [⟨x.f, e, x.v⟩])
def outL (a : Int) (v : ByteArray) (pre : List Chg) : List Spn := pre.foldl (fun l c => addL l c.time c.val) (addL [] a v)
theorem outL_snoc (a : Int) (v : ByteArray) (pre : List Chg) (c : Chg) : outL a v (pre ++ [c]) = addL (outL a v pre) c.time c.val := by unfold outL; rw [List.foldl_append]; rfl
theorem out_first {s : Sgn} {a : Int} (hk : s.kind ≠ 3) : OutOk (valS s) s.chs a a (outL a (valS s a) []) := by
  refine ⟨[], ⟨a, 0, valS s a⟩, rfl, fun e he hno => Spans.one he (fun t h1 h2 => ?_) rfl rfl⟩
  unfold valS
  rw [if_neg hk]
  dsimp only
  rw [if_neg hk]
  exact foldV_same h1 _ _ fun c hc h => hno c hc ⟨h.1, by omega⟩
theorem out_next {s : Sgn} {a t : Int} {out : List Spn} {c : Chg} (hk : s.kind ≠ 3) (hs : Sorted47 s.chs) (ho : OutOk (valS s) s.chs a t out) (hc : c ∈ s.chs) (htc : t < c.time) (h0t : 0 ≤ t) (hct : c.time ≤ 4398046511104) (hno : ∀ d ∈ s.chs, ¬ (t < d.time ∧ d.time < c.time)) :
    OutOk (valS s) s.chs a c.time (addL out c.time c.val) := by
  obtain ⟨l, x, rfl, h⟩ := ho
  have h1 := h (c.time - 1) (by omega) (fun d hd hh => hno d hd ⟨hh.1, by omega⟩)
  have hg : ∀ e, c.time ≤ e → (∀ d ∈ s.chs, ¬ (c.time < d.time ∧ d.time ≤ e)) → ∀ u, c.time ≤ u → u ≤ e → valS s u = c.val := fun e he hne u h2 h3 => by
    unfold valS
    rw [if_neg hk, foldV_same h2 _ _ (fun d hd hh => hne d hd ⟨hh.1, by omega⟩)]
    exact foldV_at _ hs hc
  rw [addL_snoc _ _ _ _ (by omega) hct]
  by_cases hv : x.v = c.val
  · rw [if_pos hv]
    refine ⟨l, x, rfl, fun e he hne => ?_⟩
    have h2 := Spans.same (e' := e) h1 (by omega) (fun u hu1 hu2 => by rw [hg e he hne u (by omega) hu2]; exact hv.symm)
    exact h2
  · rw [if_neg hv]
    refine ⟨l ++ [⟨x.f, c.time - 1, x.v⟩], ⟨c.time, 0, c.val⟩, by simp, fun e he hne => ?_⟩
    exact Spans.more (y := ⟨c.time, e, c.val⟩) h1 (by omega) (fun u hu1 hu2 => hg e he hne u (by omega) hu2) (by show c.time = _; omega) rfl hv

/-- behind all changes up to a time -/
theorem out_all {s : Sgn} {a b : Int} (hk : s.kind ≠ 3) (hs : Sorted47 s.chs) (hab : a ≤ b) (h0a : 0 ≤ a) (hb4 : b ≤ 4398046511104) : ∃ l x, outL a (valS s a) (beh s.chs a b) = l ++ [x] ∧ Spans (valS s) a b (l ++ [⟨x.f, b, x.v⟩]) := by
  suffices h : ∀ (n : Nat) (pre : List Chg) (t : Int), (beh s.chs t b).length = n → pre ++ beh s.chs t b = beh s.chs a b → a ≤ t → t ≤ b → OutOk (valS s) s.chs a t (outL a (valS s a) pre) →
      ∃ l x, outL a (valS s a) (beh s.chs a b) = l ++ [x] ∧ Spans (valS s) a b (l ++ [⟨x.f, b, x.v⟩]) from
    h _ [] a rfl rfl (Int.le_refl _) hab (out_first hk)
  intro n
  induction n with
  | zero =>
    intro pre t hn hp hat htb ho
    have he : beh s.chs t b = [] := List.eq_nil_of_length_eq_zero hn
    rw [he, List.append_nil] at hp
    obtain ⟨l, x, h1, h2⟩ := ho
    rw [← hp]
    refine ⟨l, x, h1, h2 b htb fun c hc hh => ?_⟩
    have : c ∈ beh s.chs t b := by unfold beh; rw [List.mem_filter]; exact ⟨hc, by simp; omega⟩
    rw [he] at this
    cases this
  | succ n ih =>
    intro pre t hn hp hat htb ho
    cases hnc : nextC t s.chs with
    | none => rw [beh_none hnc] at hn; cases hn
    | some c =>
      obtain ⟨h1, h2, h3⟩ := beh_step (to_ := b) hs hnc
      by_cases hcb : c.time ≤ b
      · have h4 := h2 hcb
        rw [h4] at hn hp
        have hmem : c ∈ s.chs := List.mem_of_find?_eq_some hnc
        refine ih (pre ++ [c]) c.time (by simpa using hn) (by simpa using hp) (by omega) hcb ?_
        rw [outL_snoc]
        refine out_next hk hs ho hmem h1 (by omega) (by omega) fun d hd hh => ?_
        have : d ∈ beh s.chs t b := by unfold beh; rw [List.mem_filter]; exact ⟨hd, by simp; omega⟩
        rw [h4] at this
        rcases List.mem_cons.1 this with rfl | h5
        · omega
        · have := (beh_mem h5).2.1; omega
      · rw [h3 (by omega)] at hn; cases hn
theorem addL_len (l : List Spn) (f : Int) (v : ByteArray) : (addL l f v).length ≤ l.length + 1 := by
  rcases List.eq_nil_or_concat l with rfl | ⟨l, x, rfl⟩
  · exact Nat.le_refl _
  · rw [List.concat_eq_append, addL_wrap]
    split <;> simp
theorem outL_len (a : Int) (v : ByteArray) (pre : List Chg) : (outL a v pre).length ≤ pre.length + 1 := by
  suffices h : ∀ (pre : List Chg) (l : List Spn), (pre.foldl (fun l c => addL l c.time c.val) l).length ≤ l.length + pre.length by
    have h1 := h pre (addL [] a v)
    have h2 : (addL [] a v).length = 1 := rfl
    unfold outL
    omega
  intro pre
  induction pre with
  | nil => intro l; exact Nat.le_refl _
  | cons c pre ih =>
    intro l
    have h1 := ih (addL l c.time c.val)
    have h2 := addL_len l c.time c.val
    simp only [List.foldl_cons, List.length_cons]
    omega

end Go.Proofs.YtbhcmnfeeogdhaaGreatDoor

/-
  The signals of a tree and a wave: whether they fit, how often the source is called, what the tree says at a time. Plain.
-/
namespace Go.Proofs.YtbhcmnfeeogdhaaGreatDoor
open Go.RowKit

/-- all nodes of a signal have a kind and a width -/
def agrB (x k w : Int) (n : Nd) (l : List Bool) : Bool := !(decide (n.kind = 1) && decide (n.a = x) && (decide (n.c ≠ k) || decide (n.b ≠ w))) && l.all (fun b => b)
def agrF (x k w : Int) (n : Nd) : Bool := n.fold (agrB x k w)
theorem agrF_eq (x k w : Int) (n : Nd) : agrF x k w n = (!(decide (n.kind = 1) && decide (n.a = x) && (decide (n.c ≠ k) || decide (n.b ≠ w))) && n.kids.all (agrF x k w)) := by
  unfold agrF
  rw [Nd.fold_eq]
  unfold agrB
  rw [List.all_map]
  rfl
def noSgn : Sgn := ⟨0, 0, none, 0, []⟩
def sgnAt (v : Wv) (x : Int) : Sgn := v.sigs[x.toNat]?.getD noSgn
def sigE (v : Wv) (n : Nd) (x : Int) : Int := if x < 0 ∨ (v.sigs.length : Int) ≤ x then 2 else if agrF x (sgnAt v x).kind (sgnAt v x).width n then 0 else 7
/-- the first error of signals -/
def fitE (v : Wv) (n : Nd) : List Int → Int
  | [] => 0
  | x :: r => if sigE v n x = 0 then fitE v n r else sigE v n x
theorem fitE_ok {v : Wv} {n : Nd} : ∀ {zs : List Int}, fitE v n zs = 0 ↔ ∀ x ∈ zs, sigE v n x = 0
  | [] => by simp [fitE]
  | x :: r => by
    unfold fitE
    by_cases h : sigE v n x = 0
    · rw [if_pos h, fitE_ok]; simp [h]
    · rw [if_neg h]; simp [h]
theorem fitE_bad {v : Wv} {n : Nd} {x : Int} (hx : sigE v n x ≠ 0) : ∀ {pre post : List Int}, (∀ y ∈ pre, sigE v n y = 0) → fitE v n (pre ++ x :: post) = sigE v n x
  | [], _, _ => by rw [List.nil_append, fitE, if_neg hx]
  | y :: pre, post, h => by rw [List.cons_append, fitE, if_pos (h y (by simp))]; exact fitE_bad hx fun z hz => h z (by simp [hz])
/-- the calls of the source for one signal, for all -/
def oneC (v : Wv) (f t x : Int) : Int := 4 + ((beh (sgnAt v x).chs f t).length : Int)
def allC (v : Wv) (f t : Int) (zs : List Int) : Int := (zs.map (oneC v f t)).foldl (· + ·) 0
theorem allC_snoc (v : Wv) (f t : Int) (zs : List Int) (x : Int) : allC v f t (zs ++ [x]) = allC v f t zs + oneC v f t x := by unfold allC; rw [List.map_append, List.foldl_append]; rfl
def envW (v : Wv) (t : Int) (x : Int) : ByteArray := valS (sgnAt v x) t
def gOf (v : Wv) (x : Int) : Int → ByteArray := valS (sgnAt v x)
/-- the environment that a row of values makes -/
def envL : List Int → List ByteArray → Int → ByteArray
  | z :: zs, b :: bs, x => if x = z then b else envL zs bs x
  | _, _, _ => ⟨#[]⟩
theorem envL_at (v : Wv) (t : Int) : ∀ {zs : List Int} {x : Int}, x ∈ zs → envL zs ((zs.map (gOf v)).map (· t)) x = envW v t x
  | z :: zs, x, h => by
    rw [List.map_cons, List.map_cons, envL]
    by_cases e : x = z
    · rw [if_pos e, e]; rfl
    · rw [if_neg e]
      exact envL_at v t ((List.mem_cons.1 h).resolve_left e)
/-- a tree says the same where its signals are the same -/
theorem val_congr {env env' : Int → ByteArray} (n : Nd) : (∀ x ∈ sigF n, env x = env' x) → valF env n = valF env' n := by
  induction n using Nd.ind with
  | h n ih =>
  intro h
  rw [sigF_eq] at h
  unfold sigB at h
  rw [valF_eq, valF_eq]
  unfold vaB
  by_cases k1 : n.kind = 1
  · rw [if_pos k1, if_pos k1]
    exact h _ (by simp [k1])
  rw [if_neg k1, if_neg k1]
  congr 1
  have : n.kids.map (valF env) = n.kids.map (valF env') := List.map_congr_left fun k hk => ih k hk fun x hx => h x (List.mem_append_right _ (List.mem_flatten.2 ⟨_, List.mem_map.2 ⟨k, hk, rfl⟩, hx⟩))
  rw [this]
theorem sig_kid {n k : Nd} (hk : k ∈ n.kids) {x : Int} (hx : x ∈ sigF k) : x ∈ sigF n := by
  rw [sigF_eq]
  unfold sigB
  exact List.mem_append_right _ (List.mem_flatten.2 ⟨_, List.mem_map.2 ⟨k, hk, rfl⟩, hx⟩)
theorem tru_congr {env env' : Int → ByteArray} (n : Nd) : (∀ x ∈ sigF n, env x = env' x) → truF env n = truF env' n := by
  induction n using Nd.ind with
  | h n ih =>
  intro h
  have hv := val_congr n h
  have hkv : ∀ k ∈ n.kids, valF env k = valF env' k := fun k hk => val_congr k fun x hx => h x (sig_kid hk hx)
  have hkt : n.kids.map (truF env) = n.kids.map (truF env') := List.map_congr_left fun k hk => ih k hk fun x hx => h x (sig_kid hk hx)
  rw [truF_eq, truF_eq, hkt]
  unfold truB
  rw [hv]
  split
  · rfl
  split
  · rfl
  split
  · match h : n.kids, hkv with
    | x :: y :: r, hkv =>
      dsimp only
      rw [hkv x (by simp), hkv y (by simp)]
    | [], _ => rfl
    | [_], _ => rfl
  split
  · match h : n.kids, hkv with
    | x :: r, hkv =>
      dsimp only
      rw [hkv x (by simp)]
    | [], _ => rfl
  rfl

end Go.Proofs.YtbhcmnfeeogdhaaGreatDoor

/-
  What wavestoreref47.Small says of a wave; the values of its signals. Plain.
-/
namespace Go.Proofs.YtbhcmnfeeogdhaaGreatDoor
open Go.RowKit

def vOk (s : Sgn) (v : ByteArray) : Prop := (s.kind = 0 → (v.size : Int) = s.width ∧ v.data.toList.all bitC = true) ∧ v.size ≤ 64
structure SgOk (fin : Int) (s : Sgn) : Prop where
  kind : 0 ≤ s.kind ∧ s.kind ≤ 3
  width : (s.kind = 0 → 1 ≤ s.width ∧ s.width ≤ 64) ∧ (s.kind ≠ 0 → s.width = 0)
  len : s.chs.length ≤ 20
  sorted : Sorted47 s.chs
  each : ∀ c ∈ s.chs, 0 ≤ c.time ∧ c.time ≤ fin ∧ vOk s c.val
structure SmallOk (v : Wv) : Prop where
  len : v.sigs.length ≤ 8
  fin : 0 ≤ v.fin ∧ v.fin ≤ 1099511627776
  each : ∀ s ∈ v.sigs, SgOk v.fin s
theorem foldV_ok {p : ByteArray → Prop} (t : Int) : ∀ (cs : List Chg) (v : ByteArray), p v → (∀ c ∈ cs, p c.val) → p (foldV t cs v)
  | [], _, h, _ => h
  | a :: r, v, h, hc => by
    rw [foldV_cons]
    refine foldV_ok t r _ ?_ fun c h2 => hc c (by simp [h2])
    split
    · exact hc a (by simp)
    · exact h
theorem init_ok {fin : Int} {s : Sgn} (h : SgOk fin s) : vOk s (bs (initB s)) := by
  obtain ⟨h1, h2⟩ := h.width
  unfold vOk initB initL
  by_cases k1 : s.kind = 1
  · rw [if_pos k1]
    exact ⟨fun k => by omega, by decide⟩
  · rw [if_neg k1]
    by_cases k0 : s.kind = 0
    · rw [if_pos k0]
      obtain ⟨h3, h4⟩ := h1 k0
      have hs : (bs (List.replicate s.width.toNat 120)).size = s.width.toNat := by simp [bs, ByteArray.size]
      refine ⟨fun _ => ⟨by omega, ?_⟩, by omega⟩
      simp [bs, bitC]
    · rw [if_neg k0]
      exact ⟨fun k => absurd k k0, by decide⟩
theorem valS_ok {fin : Int} {s : Sgn} (h : SgOk fin s) (t : Int) : vOk s (valS s t) := by
  unfold valS
  split
  · exact init_ok h
  · exact foldV_ok t _ _ (init_ok h) fun c hc => (h.each c hc).2.2
theorem sgn_mem {v : Wv} {x : Int} (h0 : 0 ≤ x) (h1 : x < v.sigs.length) : v.sigs[x.toNat]? = some (sgnAt v x) ∧ sgnAt v x ∈ v.sigs := by
  have h2 : x.toNat < v.sigs.length := by omega
  have h3 : v.sigs[x.toNat]? = some v.sigs[x.toNat] := List.getElem?_eq_getElem h2
  have h4 : sgnAt v x = v.sigs[x.toNat] := by unfold sgnAt; rw [h3]; rfl
  rw [h4]
  exact ⟨h3, List.getElem_mem h2⟩
theorem sigE_zero {v : Wv} {n : Nd} {x : Int} (h : sigE v n x = 0) : 0 ≤ x ∧ x < v.sigs.length ∧ agrF x (sgnAt v x).kind (sgnAt v x).width n = true := by
  unfold sigE at h
  split at h
  · cases h
  · split at h
    · exact ⟨by omega, by omega, by assumption⟩
    · cases h
theorem agr_kid {x k w : Int} {n m : Nd} (h : agrF x k w n = true) (hm : m ∈ n.kids) : agrF x k w m = true := by
  rw [agrF_eq, Bool.and_eq_true, List.all_eq_true] at h
  exact h.2 m hm
theorem agr_here {k w : Int} {n : Nd} (h : agrF n.a k w n = true) (h1 : n.kind = 1) : n.c = k ∧ n.b = w := by
  rw [agrF_eq, Bool.and_eq_true] at h
  have := h.1
  rw [decide_eq_true h1, decide_eq_true (rfl : n.a = n.a)] at this
  simp at this
  exact this
theorem env_ok_of {v : Wv} (hv : SmallOk v) (t : Int) (n : Nd) : (∀ x ∈ sigF n, 0 ≤ x ∧ x < v.sigs.length ∧ agrF x (sgnAt v x).kind (sgnAt v x).width n = true) → n.fold (fun m l => m.value.size ≤ 130 ∧ ∀ p ∈ l, p) → EnvOk (envW v t) n := by
  induction n using Nd.ind with
  | h n ih =>
  intro hs hsz
  rw [Nd.fold_eq] at hsz
  refine (EnvOk_eq _ n).2 ⟨fun k1 => ?_, hsz.1, fun k hk => ih k hk (fun x hx => ?_) (hsz.2 _ (List.mem_map.2 ⟨k, hk, rfl⟩))⟩
  · have hin : n.a ∈ sigF n := by rw [sigF_eq]; unfold sigB; simp [k1]
    obtain ⟨h0, h1, h2⟩ := hs _ hin
    obtain ⟨_, hm⟩ := sgn_mem h0 h1
    obtain ⟨h3, h4⟩ := agr_here h2 k1
    have hok := valS_ok (hv.each _ hm) t
    refine ⟨fun hc => ?_, ?_⟩
    · have := (hok.1 (by omega)).1
      unfold envW
      omega
    · have := hok.2
      unfold envW
      omega
  · obtain ⟨h0, h1, h2⟩ := hs x (sig_kid hk hx)
    exact ⟨h0, h1, agr_kid h2 hk⟩

end Go.Proofs.YtbhcmnfeeogdhaaGreatDoor

/-
  wavestoreref47.value: what it says of a string.
-/
namespace Go.Proofs.YtbhcmnfeeogdhaaGreatDoor
open Go.RowKit

/-- whether a string is a value of a signal -/
def val47B (kind width : Int) (s : ByteArray) : Bool := if kind = 3 then s.toList.isEmpty else if kind = 0 then s.data.toList.all bitC && ((s.size : Int) == width) else decide ((s.size : Int) ≤ 64)
def ValueSays (kind width : Int) (s : ByteArray) : Prop := (kind = 0 → (s.size : Int) = width ∧ s.data.toList.all bitC = true) ∧ (kind ≠ 0 → s.size ≤ 64)
theorem empty_size {s : ByteArray} (h : s.toList.isEmpty = true) : s.size = 0 := by
  rw [ByteArray.toList_eq, List.isEmpty_iff] at h
  show s.data.size = 0
  rw [← Array.length_toList, h]
  rfl
theorem val47_says {kind width : Int} {s : ByteArray} (h : val47B kind width s = true) : ValueSays kind width s := by
  unfold val47B at h
  by_cases k3 : kind = 3
  · rw [if_pos k3] at h
    exact ⟨fun e => by omega, fun _ => by rw [empty_size h]; decide⟩
  · rw [if_neg k3] at h
    by_cases k0 : kind = 0
    · rw [if_pos k0, Bool.and_eq_true] at h
      exact ⟨fun _ => ⟨eq_of_beq h.2, h.1⟩, fun e => absurd k0 e⟩
    · rw [if_neg k0] at h
      exact ⟨fun e => absurd e k0, fun _ => by have := of_decide_eq_true h; omega⟩
theorem all_false {s : ByteArray} {k : Nat} (hk : k < s.size) (h0 : s[k] ≠ 48) (h1 : s[k] ≠ 49) (h2 : s[k] ≠ 120) (h3 : s[k] ≠ 122) : s.data.toList.all bitC = false := by
  rw [← Bool.not_eq_true, List.all_eq_true]
  intro ha
  have := ha s[k] (by show s.data[k] ∈ _; simp)
  unfold bitC at this
  simp [h0, h1, h2, h3] at this
set_option maxRecDepth 100000 in
set_option maxHeartbeats 2000000 in
theorem value47_any (kind width : Int) (CA : Option Addr) (n cc : Nat) (s : ByteArray) (w : World) (hs : s.size ≤ 9223372036854775807) :
    Calls Tryz.prog 60 #[.agg #[.int .i64 kind, .int .i64 width, .slice CA n cc], .string s] w fun e w' => e = .returned (.bool (val47B kind width s)) ∧ Below w.heap.size w w' := by
  have hx := heap_alloc_new w (.cells #[.int .i64 kind, .int .i64 width, .slice CA n cc] 70)
  have HB := hide (show Below w.heap.size w (w.alloc (.cells #[.int .i64 kind, .int .i64 width, .slice CA n cc] 70)) from (Below.refl _ _).alloc (Nat.le_refl _) _)
  by_cases k3 : kind = 3
  · subst k3
    have HE := hide (show s.toList.isEmpty = val47B 3 width s from rfl)
    go_enter Tryz.func60, Tryz.ntmps60
    go_wp2_with fail
    go_ret
    exact ⟨by rw [← HE.out]; rfl, HB.out⟩
  · have t3 : (kind == 3) = false := beq_eq_false_iff_ne.2 k3
    by_cases k0 : kind = 0
    · subst k0
      have HY := hide (show val47B 0 width s = (s.data.toList.all bitC && ((s.size : Int) == width)) from rfl)
      clear k3 t3
      go_enter Tryz.func60, Tryz.ntmps60
      go_wp2_with fail
      go_loop [5] (fun i => KnRel allBits s i) (fun i => s.size - (intOf i).toNat)
      case atStart => exact ⟨0, Nat.zero_le _, rfl, rfl⟩
      case round =>
        obtain ⟨k, hk, rfl, hp⟩ := hrel
        have HP := hide hp
        clear hp
        by_cases hlt : k < s.size
        · have HT := hide (bit_take hlt)
          by_cases h0 : s[k] = 48
          · have HK := hide (show bitC s[k] = true by rw [h0]; rfl)
            have t0 : ((s[k].toNat : Int) != 48) = false := by rw [h0]; rfl
            clear h0
            go_wp2_with fail
            go_round
            case rel => exact ⟨k + 1, by omega, by go_num, by rw [HT.out, HP.out, HK.out]; rfl⟩
            case measure => simp [intOf]; omega
          · have t0 : ((s[k].toNat : Int) != 48) = true := u8_ne h0
            have H0 := hide h0
            clear h0
            by_cases h1 : s[k] = 49
            · have HK := hide (show bitC s[k] = true by rw [h1]; rfl)
              have t1 : ((s[k].toNat : Int) != 49) = false := by rw [h1]; rfl
              clear h1
              go_wp2_with fail
              go_round
              case rel => exact ⟨k + 1, by omega, by go_num, by rw [HT.out, HP.out, HK.out]; rfl⟩
              case measure => simp [intOf]; omega
            · have t1 : ((s[k].toNat : Int) != 49) = true := u8_ne h1
              have H1 := hide h1
              clear h1
              by_cases h2 : s[k] = 120
              · have HK := hide (show bitC s[k] = true by rw [h2]; rfl)
                have t2 : ((s[k].toNat : Int) != 120) = false := by rw [h2]; rfl
                clear h2
                go_wp2_with fail
                go_round
                case rel => exact ⟨k + 1, by omega, by go_num, by rw [HT.out, HP.out, HK.out]; rfl⟩
                case measure => simp [intOf]; omega
              · have t2 : ((s[k].toNat : Int) != 120) = true := u8_ne h2
                have H2 := hide h2
                clear h2
                by_cases h3 : s[k] = 122
                · have HK := hide (show bitC s[k] = true by rw [h3]; rfl)
                  have t3 : ((s[k].toNat : Int) != 122) = false := by rw [h3]; rfl
                  clear h3
                  go_wp2_with fail
                  go_round
                  case rel => exact ⟨k + 1, by omega, by go_num, by rw [HT.out, HP.out, HK.out]; rfl⟩
                  case measure => simp [intOf]; omega
                · have t3 : ((s[k].toNat : Int) != 122) = true := u8_ne h3
                  have HF := hide (all_false hlt H0.out H1.out H2.out h3)
                  clear h3
                  go_wp2_with fail
                  go_ret
                  exact ⟨by rw [HY.out, HF.out]; rfl, HB.out⟩
        · have hke : k = s.size := by omega
          subst hke
          have hp := HP.out
          rw [List.take_of_length_le (by simp)] at hp
          have HP2 := hide hp
          clear hp
          go_wp2_with fail
          go_ret
          exact ⟨by rw [HY.out, show s.data.toList.all bitC = true from HP2.out]; rfl, HB.out⟩
    · have t0 : (kind == 0) = false := beq_eq_false_iff_ne.2 k0
      have HE := hide (show val47B kind width s = decide ((s.size : Int) ≤ 64) by unfold val47B; rw [if_neg k3, if_neg k0])
      clear k3 k0
      go_enter Tryz.func60, Tryz.ntmps60
      go_wp2_with fail
      go_ret
      exact ⟨by rw [HE.out]; rfl, HB.out⟩

end Go.Proofs.YtbhcmnfeeogdhaaGreatDoor

/-
  A region that draws its order, whose operations read and whose callees only make memory: one walk in the order of the text.
-/
namespace Go.Proofs.YtbhcmnfeeogdhaaGreatDoor
open Go.RowKit

/-- worlds that have grown out of one -/
abbrev Gr (W0 : World) := {x : World // Below W0.heap.size W0 x}
theorem region_grown {P : Program} {id : Nat} {Q : Exit → Act → World → Prop} {a : Act} {w W0 : World} {l : List Oper} (hm : P.follows .mixedOrders = true) (hB : Region.lexB .any l.toArray = true) (hb : Below W0.heap.size W0 w)
    (h : wpQuiet P l.toArray (fun w' => ∃ u : Gr W0, w' = u.val) (fun a' => ∀ w', (∃ u : Gr W0, w' = u.val) → Q .normal a' w') l a) : (Code.region id l.toArray true).wp P Q a w :=
  wp_region_quiet (C := fun w' => ∃ u : Gr W0, w' = u.val) hm hB ⟨⟨_, below_drew hb⟩, rfl⟩ (by simpa using h)
theorem Calls.grown {P : Program} {f : FuncId} {args : Array Value} {W0 : World} {u : Gr W0} {v : Value} (h : Calls P f args u.val fun e w' => e = .returned v ∧ Below u.val.heap.size u.val w') : Calls P f args u.val fun e w'' => e = .returned v ∧ ∃ u' : Gr W0, w'' = u'.val :=
  h.mono fun _ w' ⟨he, hw⟩ => ⟨he, ⟨w', bstep u.2 hw⟩, rfl⟩
theorem Gr.cell {W0 : World} {a : Addr} {v : Value} (h : W0.cell? a = some v) (u : Gr W0) : u.val.cell? a = some v := cell_later u.2 h

end Go.Proofs.YtbhcmnfeeogdhaaGreatDoor

/-
  Trees of api.Node in memory.
-/
namespace Go.Proofs.YtbhcmnfeeogdhaaGreatDoor
open Go.RowKit

def cNd : Nd → List Value | .mk kind at_ name value a b c d KA kc kids => [.int .i64 kind, .int .i64 at_, .string name, .string value, .int .i64 a, .int .i64 b, .int .i64 c, .int .i64 d, .slice KA kids.length kc]
/-- lists of trees in memory -/
inductive TreesAt (w : World) (P : Nat → Prop) : Option Addr → List Nd → Prop
  | mk (A : Option Addr) (l : List Nd) (len : l.length ≤ 1353245080339) (row : Row w P 9 cNd A l) (kids : ∀ n, n ∈ l → TreesAt w P n.KA n.kids) : TreesAt w P A l
section
variable {w w' : World} {P P' : Nat → Prop} {A : Option Addr} {l : List Nd}
theorem TreesAt.len (h : TreesAt w P A l) : l.length ≤ 1353245080339 := by cases h; assumption
theorem TreesAt.row (h : TreesAt w P A l) : Row w P 9 cNd A l := by cases h; assumption
theorem TreesAt.each (h : TreesAt w P A l) : ∀ n ∈ l, TreesAt w P n.KA n.kids := by cases h; assumption
theorem TreesAt.stay (h : TreesAt w P A l) (hs : Stay P w w') : TreesAt w' P A l := by
  induction h with
  | mk A l len row _ ih => exact .mk A l len (row.stay hs) fun n hn => ih n hn
theorem TreesAt.more (h : TreesAt w P A l) (hp : ∀ b, P b → P' b) : TreesAt w P' A l := by
  induction h with
  | mk A l len row _ ih => exact .mk A l len (row.more hp) fun n hn => ih n hn
theorem TreesAt.grow (h : TreesAt w (Lo w.heap.size) A l) (hb : Below w.heap.size w w') : TreesAt w' (Lo w'.heap.size) A l := (h.stay (stay_below hb fun _ h => h)).more fun _ hb' => Nat.lt_of_lt_of_le hb' hb.size
theorem TreesAt.nil : TreesAt w P A [] := .mk A [] (by simp) Row.nil fun n hn => absurd hn (by simp)
end
theorem box9 {w : World} {N : Nat} {a b c d e f g h i : Value} {t : TypeId} (hN : w.heap[N]? = some (.cells #[a, b, c, d, e, f, g, h, i] t (0, 0))) : w.cell? ⟨N, 0, none⟩ = some a ∧ w.cell? ⟨N, 1, none⟩ = some b ∧ w.cell? ⟨N, 2, none⟩ = some c ∧ w.cell? ⟨N, 3, none⟩ = some d ∧ w.cell? ⟨N, 4, none⟩ = some e ∧ w.cell? ⟨N, 5, none⟩ = some f ∧ w.cell? ⟨N, 6, none⟩ = some g ∧ w.cell? ⟨N, 7, none⟩ = some h ∧ w.cell? ⟨N, 8, none⟩ = some i := by
  refine ⟨?_, ?_, ?_, ?_, ?_, ?_, ?_, ?_, ?_⟩ <;> (rw [cell_of_row w N _ _ t (0, 0) hN]; rfl)
/-- nine cells out of a row's fact -/
theorem nine {w : World} {b o : Nat} {v0 v1 v2 v3 v4 v5 v6 v7 v8 : Value} (h : ∀ j, j < 9 → w.cell? ⟨b, o + j, none⟩ = [v0, v1, v2, v3, v4, v5, v6, v7, v8][j]?) :
    w.cell? ⟨b, o, none⟩ = some v0 ∧ w.cell? ⟨b, o + 1, none⟩ = some v1 ∧ w.cell? ⟨b, o + 2, none⟩ = some v2 ∧ w.cell? ⟨b, o + 3, none⟩ = some v3 ∧ w.cell? ⟨b, o + 4, none⟩ = some v4 ∧ w.cell? ⟨b, o + 5, none⟩ = some v5 ∧ w.cell? ⟨b, o + 6, none⟩ = some v6 ∧ w.cell? ⟨b, o + 7, none⟩ = some v7 ∧ w.cell? ⟨b, o + 8, none⟩ = some v8 :=
  ⟨h 0 (by omega), h 1 (by omega), h 2 (by omega), h 3 (by omega), h 4 (by omega), h 5 (by omega), h 6 (by omega), h 7 (by omega), h 8 (by omega)⟩
theorem new_at {w W : World} {o : Obj} (h : w.alloc o = W) : W.heap[w.heap.size]? = some o := by rw [← h]; exact heap_alloc_new w o
/-- a value in the end, in memory that has only grown -/
def RetV (v : Value) (w : World) (e : Ending) (w' : World) : Prop := e = .returned v ∧ Below w.heap.size w w'

end Go.Proofs.YtbhcmnfeeogdhaaGreatDoor
