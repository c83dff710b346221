/-
  Several texts in one: BackI, RoundTail. Each says at its head what it holds.
-/
import Derived.Test.YtgobkbjkndfliaaGreatDoorAP11
import Derived.RangeFuncNested
import Derived.RangeFuncBox
import Derived.RangeFuncLeaves
import Derived.Shelf.Abstract
import Derived.OwnWalkIn
import Derived.TacticsInMore
import Derived.LoopNIn
import Derived.LoopIn
import Derived.StillTail
import Derived.OrdersIn
import Derived.TacticsIn

/-
  slices.Backward over a block of ints whose cells the loop's rounds write: what the rounds are handed, from the last place to the first.
-/
namespace Go.Proofs.YtgobkbjkndfliaaGreatDoor
open Go.RowKit Go.Shelf

attribute [local go_sem] Oper.semAt_some

/-- a place of a block of n ints, with what was read there -/
structure Plc (n : Nat) where
  i : Nat
  v : Int
  lt : i < n
def plcEnc {n : Nat} (x : Plc n) : Array Value := #[.int .i64 (x.i : Int), .int .i64 x.v]
/-- the places have come from the last one down -/
def Down {n : Nat} (l : List (Plc n)) : Prop := ∀ (k : Nat) (x : Plc n), l[k]? = some x → x.i + k + 1 = n
theorem Down.nil {n : Nat} : Down ([] : List (Plc n)) := fun k x h => by simp at h
theorem Down.snoc {n : Nat} {l : List (Plc n)} {x : Plc n} (h : Down l) (hx : x.i + l.length + 1 = n) : Down (l ++ [x]) := fun k y hk => by
  rcases Nat.lt_or_ge k l.length with h1 | h1
  · rw [List.getElem?_append_left h1] at hk; exact h k y hk
  · rw [List.getElem?_append_right h1] at hk
    have h2 : k - l.length = 0 := by
      rcases Nat.eq_zero_or_pos (k - l.length) with h3 | h3
      · exact h3
      · rw [List.getElem?_eq_none (by simp; omega)] at hk; cases hk
    rw [h2] at hk
    simp at hk
    subst hk
    omega
theorem Down.init {n : Nat} {l : List (Plc n)} {x : Plc n} (h : Down (l ++ [x])) : Down l ∧ x.i + l.length + 1 = n :=
  ⟨fun k y hk => h k y (by rw [List.getElem?_append_left (List.getElem?_eq_some_iff.1 hk).1]; exact hk), h l.length x (by simp)⟩
/-- what a round keeps: the box of the slice, and that its block holds as many ints -/
def KeepI (Bs g : Nat) (W W' : World) : Prop := W'.heap[Bs]? = W.heap[Bs]? ∧ ∀ xs, ArI W g xs → ∃ ys, ArI W' g ys ∧ ys.length = xs.length
theorem KeepI.refl (Bs g : Nat) (W : World) : KeepI Bs g W W := ⟨rfl, fun xs h => ⟨xs, h, rfl⟩⟩
theorem KeepI.trans {Bs g : Nat} {A B C : World} (h : KeepI Bs g A B) (k : KeepI Bs g B C) : KeepI Bs g A C :=
  ⟨k.1.trans h.1, fun xs hx => by obtain ⟨ys, h1, h2⟩ := h.2 xs hx; obtain ⟨zs, h3, h4⟩ := k.2 ys h1; exact ⟨zs, h3, h4.trans h2⟩⟩
theorem KeepI.book {Bs g : Nat} {w : World} (hB : Bs < w.heap.size) (hg : g < w.heap.size) (W : World) (l : Nat) (o o' : Obj) (hl : w.heap.size ≤ l) (_ : W.heap[l]? = some o) (_ : o.isCells = false) (_ : o.isWalk = false) : KeepI Bs g W (W.putObj l o') := by
  have hne : ∀ k, k < w.heap.size → (W.putObj l o').heap[k]? = W.heap[k]? := fun k hk => by
    unfold World.putObj
    simp only
    rw [Array.getElem?_setIfInBounds_ne (by omega)]
  exact ⟨hne _ hB, fun xs h => ⟨xs, (hne _ hg).trans h, rfl⟩⟩

/-- between two rounds of the iterator's loop -/
def BackRelI (Bs g n : Nat) (W : World) (J : List (Plc n) → World → Prop) (i : Value) (wr : World) : Prop :=
  ∃ pre : List (Plc n), Down pre ∧ pre.length ≤ n ∧ i = .int .i64 ((n : Int) - 1 - pre.length) ∧ J pre wr ∧ KeepI Bs g W wr

set_option maxRecDepth 100000 in
set_option maxHeartbeats 2000000 in
theorem backwardI_in (m l Bs g n c : Nat) (hm : 1 ≤ m) (hl : n ≤ 4398046511104) (J Jx : List (Plc n) → World → Prop)
    (hY : ∀ pre x W, J pre W → pre.length < n → YieldAt Fence.wide (m - 1) Tryz.prog l (plcEnc x) W fun e W' =>
      (e = .returned (.bool true) ∧ J (pre ++ [x]) W' ∧ KeepI Bs g W W') ∨ (e = .returned (.bool false) ∧ Jx (pre ++ [x]) W'))
    (W : World) (hBs : W.heap[Bs]? = some (.cells #[.slice (some ⟨g, 0, none⟩) n c] 43 (0, 0))) (xs : List Int) (hx : ArI W g xs) (hxl : xs.length = n) (h0 : J [] W) :
    CallsIn Fence.wide m Tryz.prog 97 #[.func (.yield l) #[] #[], .pointer (some ⟨Bs, 0, none⟩)] W fun e W' => (∃ v, e = .returned v) ∧
      ((∃ zs, (Down zs ∧ zs.length = n) ∧ J zs W') ∨ (∃ pre, Down pre ∧ Jx pre W')) := by
  have HXL := hide hxl
  clear hxl
  refine callsIn_of_wp Tryz.func97 rfl trivial ?_ rfl
  simp only [Tryz.ntmps97, List.size_toArray, List.length_cons, List.length_nil, Nat.reduceAdd, Nat.reduceSub, Array.replicate_succ, Array.replicate_zero, List.push_toArray, List.append_toArray, List.nil_append, List.cons_append]
  have cBs : W.cell? ⟨Bs, 0, none⟩ = some (.slice (some ⟨g, 0, none⟩) n c) := by rw [cell_of_row W Bs 0 _ _ (0, 0) hBs]; rfl
  have HBS := hide hBs
  clear hBs
  gi_wp2
  gi_loopw [3] (fun i wr => BackRelI Bs g n W J i wr) (fun i _ => (intOf i + 1).toNat)
  case atStart => exact ⟨[], Down.nil, Nat.zero_le _, by simp, h0, KeepI.refl _ _ _⟩
  case round =>
    obtain ⟨pre, hdn, hle, rfl, hJs, hkp⟩ := hrel
    have hBr := hkp.1.trans HBS.out
    have cBr : wr.cell? ⟨Bs, 0, none⟩ = some (.slice (some ⟨g, 0, none⟩) n c) := by rw [cell_of_row wr Bs 0 _ _ (0, 0) hBr]; rfl
    have HDN := hide hdn
    have HKP := hide hkp
    clear hBr hdn hkp cBs
    by_cases hlt : pre.length < n
    · obtain ⟨p, hp⟩ : ∃ p : Nat, p + pre.length + 1 = n := ⟨n - 1 - pre.length, by omega⟩
      have hpe : (n : Int) - 1 - pre.length = (p : Int) := by omega
      have HP := hide hp
      rw [hpe]
      obtain ⟨ys, hy1, hy2⟩ := HKP.out.2 xs hx
      have hyl : p < ys.length := by rw [hy2, HXL.out]; omega
      have hcel := hy1.cell (k := p) (List.getElem?_eq_getElem hyl)
      obtain ⟨u, hu⟩ : ∃ u : Int, ys[p] = u := ⟨_, rfl⟩
      rw [hu] at hcel
      have hpn : p < n := by omega
      obtain ⟨fn, tmps, assign, body, hy, hR⟩ := hY pre ⟨p, u, hpn⟩ wr hJs hlt
      unfold plcEnc at hy
      dsimp only at hy
      have hgz : g < wr.heap.size := hy1.lt
      clear hy1 hy2 hyl hu hpe hp
      gi_wp2
      refine hR.mono ?_
      rintro e W3 (⟨rfl, hJ3, hk3⟩ | ⟨rfl, hJx3⟩)
      · gi_wp2
        go_roundw
        case rel => exact ⟨pre ++ [⟨p, u, hpn⟩], HDN.out.snoc (by have := HP.out; dsimp only; omega), by simp; omega, by have := HP.out; congr 1; simp; omega, hJ3, HKP.out.trans hk3⟩
        case measure => simp [intOf]
      · gi_wp2
        refine bodyPost_ret (results_none rfl _ _ _) rfl ?_
        exact ⟨⟨_, rfl⟩, .inr ⟨_, HDN.out.snoc (by have := HP.out; dsimp only; omega), hJx3⟩⟩
    · have he : pre.length = n := by omega
      have hpe : (n : Int) - 1 - pre.length = -1 := by omega
      have HE := hide he
      rw [hpe]
      clear he hpe hlt hle
      gi_wp2
      go_end0
      exact ⟨⟨_, rfl⟩, .inl ⟨_, ⟨HDN.out, HE.out⟩, hJs⟩⟩

theorem backI_in (n : Nat) (A : Option Addr) (len cap : Nat) (w : World) :
    CallsIn Fence.wide n Tryz.prog 71 #[.slice A len cap] w fun e w' => e = .returned (.func (.func 97) #[] #[.pointer (some ⟨w.heap.size, 0, none⟩)]) ∧ w' = w.alloc (.cells #[.slice A len cap] 43) := by
  refine callsIn_of_wp Tryz.func71 rfl trivial ?_ rfl
  simp only [Tryz.ntmps71, List.size_toArray, List.length_cons, List.length_nil, Nat.reduceAdd, Nat.reduceSub, Array.replicate_succ, Array.replicate_zero, List.push_toArray, List.append_toArray, List.nil_append, List.cons_append]
  gi_wp2
  go_ret
  exact ⟨rfl, rfl⟩

theorem backI_stops (m Bs g n c : Nat) (hm : 1 ≤ m) (hl : n ≤ 4398046511104) (w : World)
    (hBs : w.heap[Bs]? = some (.cells #[.slice (some ⟨g, 0, none⟩) n c] 43 (0, 0))) (xs : List Int) (hx : ArI w g xs) (hxl : xs.length = n) :
    SeqStopsK Fence.wide m Tryz.prog 97 #[.pointer (some ⟨Bs, 0, none⟩)] (plcEnc (n := n)) (KeepI Bs g) (fun zs => Down zs ∧ zs.length = n) Down n w := fun l J Jx W hW _ _ hY h0 =>
  backwardI_in m l Bs g n c hm hl J Jx hY W ((hW.block _ (box_lt hBs)).trans hBs) xs (hx.below hW) hxl h0

end Go.Proofs.YtgobkbjkndfliaaGreatDoor

/-
  A region that draws its order, whose operations read but for a last one in a forced place, inside a round of a loop over an iterator.
-/
namespace Go.Proofs.YtgobkbjkndfliaaGreatDoor

/-- no operation defers -/
def noDefer (ops : Array Oper) : Bool := ops.all fun o => match o.op with | .defer _ => false | _ => true
theorem noDefer_at {ops : Array Oper} (h : noDefer ops = true) {i : Nat} {o : Oper} (ho : ops[i]? = some o) : ∀ c, o.op ≠ .defer c := by
  intro c e
  unfold noDefer at h
  rw [Array.all_eq_true] at h
  obtain ⟨hi, rfl⟩ := Array.getElem?_eq_some_iff.1 ho
  have := h i hi
  rw [e] at this
  cases this

section
variable {P : Program} {ops : Array Oper} {md : Region.Mode} {w : World} {l n : Nat}
theorem wpOpIn_of_stOp {i : Nat} {a : Act} {K : Act → Prop} {K' : Act → World → Prop} {Q' : Exit → Act → World → Prop} (hnd : noDefer ops = true) (h : ∀ a, K a → K' a w) (hh : stOp P ops w i K a) : wpOpIn (Fence.wide.inRound l) n P ops Q' i K' a w := by
  unfold stOp at hh
  unfold wpOpIn
  split
  · rename_i ho; simp only [ho] at hh; exact h _ hh
  · rename_i o ho
    simp only [ho] at hh
    split
    · rename_i hw
      simp only [hw, if_true] at hh
      unfold Oper.still at hh
      refine ⟨fun _ _ => trivial, ?_⟩
      rw [Oper.semAt_eq _ _ _ (noDefer_at hnd ho)]
      generalize (execOp a.eval o).run P w = r at *
      cases r with
      | ok x w' =>
        cases x <;> simp only [Oper.stillUpon] at hh <;> simp only [Oper.uponIn]
        case enter f args =>
          obtain ⟨rfl, v, hc, hn⟩ := hh
          refine ⟨(fun e => by cases e), ?_⟩
          have hc2 : CallsIn (Fence.wide.inRound l) (n - 1) P f args w' (fun e w'' => e = .returned v ∧ w'' = w') := callsIn_wide.2 hc
          exact hc2.mono fun e w'' ⟨he, hw⟩ => by subst he; subst hw; exact h _ hn
        all_goals (obtain ⟨rfl, h2⟩ := hh; exact h _ h2)
      | halt x w' => simp only [Oper.stillUpon] at hh
    · rename_i hw; simp only [hw] at hh; exact ⟨fun _ _ => trivial, h _ hh⟩
theorem wpAnyIn_of_head {m g : Nat} {L : Array Bool → Act → Prop} {Q' : Exit → Act → World → Prop} (hnd : noDefer ops = true) (hL : ∀ listed a, L listed a → wpAnyIn (Fence.wide.inRound l) n P md ops Q' g listed a w) :
    ∀ (f : Nat) (listed : Array Bool) (a : Act), wpAnyL P md ops w m L f listed a → wpAnyIn (Fence.wide.inRound l) n P md ops Q' (f + g) listed a w
  | 0, listed, a, h => by rw [Nat.zero_add]; exact hL _ _ h
  | f + 1, listed, a, h => by
    rw [show f + 1 + g = (f + g) + 1 by omega]
    exact ⟨fun h0 => absurd h0 h.1, fun i hi => wpOpIn_of_stOp hnd (fun a' h' => wpAnyIn_of_head hnd hL f _ a' h') (h.2 i hi).2⟩
theorem wpAnyIn_of_seq {Q' : Exit → Act → World → Prop} {F : Fence} : ∀ (s : List Oper) (k : Nat) (listed : Array Bool) (a : Act) (w : World), (∀ j, s[j]? = ops[k + j]?) →
    Region.seqB md ops s.length k listed = true → wpListIn F n P ops Q' s a w → wpAnyIn F n P md ops Q' s.length listed a w
  | [], _, _, _, _, _, hB, h => ⟨by simpa [Region.seqB] using hB, h⟩
  | o :: s, k, listed, a, w, hl, hB, h => by
    have h0 : ops[k]? = some o := by simpa using (hl 0).symm
    simp only [List.length_cons, Region.seqB, Bool.and_eq_true, decide_eq_true_eq] at hB
    refine ⟨fun h1 => (by rw [hB.1] at h1; cases h1), fun i hi => ?_⟩
    rw [hB.1] at hi
    have hik : i = k := by simpa using hi
    subst hik
    have hw : wpOpIn F n P ops Q' i (wpListIn F n P ops Q' s) a w := by unfold wpOpIn; simp only [h0]; exact h
    exact wpOpIn_mono (fun a' w' h' => wpAnyIn_of_seq s (i + 1) _ a' w' (fun j => by have := hl (j + 1); simpa [Nat.add_assoc, Nat.add_comm 1 j] using this) hB.2 h') hw
theorem wpIn_region_still_tail {id : Nat} {Q : Exit → Act → World → Prop} {a : Act} {w : World} {s : List Oper} (m : Nat) (hm : P.follows .mixedOrders = true) (hB : Region.lexTailB .any s.toArray m = true) (hnd : noDefer s.toArray = true)
    (h : wpStill P s.toArray { w with drawn := w.drawn + 1 } (fun a' => wpListIn (Fence.wide.inRound l) n P s.toArray Q (s.drop m) a' { w with drawn := w.drawn + 1 }) (s.take m) a) : (Code.region id s.toArray true).wpIn (Fence.wide.inRound l) n P Q a w := by
  simp only [Region.lexTailB, Bool.and_eq_true, decide_eq_true_eq] at hB
  obtain ⟨⟨⟨⟨hsel, hn⟩, hs⟩, hc⟩, hlex⟩ := hB
  have hn' : m < s.length := by simpa using hn
  have htl : (s.take m).length = m := by simp; omega
  have hdl : (s.drop m).length = s.toArray.size - m := by simp
  have inv0 : HeadInv .any s.toArray m (Array.replicate s.toArray.size false) :=
    ⟨by simp, fun j oj _ hl => (by rw [getD_replicate_false] at hl; cases hl), fun t _ ht => getD_in (by simpa using ht) (getD_replicate_false _ _)⟩
  have H := wpAnyL_lex (md := .any) (g := s.toArray.size - m) hsel hs hc hn (s.take m) 0 _ a (fun j hj => by
    have hj' : j < m := by rw [htl] at hj; exact hj
    simp [hj']) (by simpa using htl) inv0 (by rw [htl]; exact hlex) h
  refine wpIn_region_any hm ?_
  have := wpAnyIn_of_head (l := l) (n := n) (Q' := Q) (g := s.toArray.size - m) hnd (fun listed a' hL => by
    have := wpAnyIn_of_seq (md := .any) (n := n) (F := Fence.wide.inRound l) (Q' := Q) (s.drop m) m listed a' { w with drawn := w.drawn + 1 } (fun j => by simp [List.getElem?_drop]) (by rw [hdl]; exact hL.1) hL.2
    rwa [hdl] at this) _ _ _ H
  rw [htl, show m + (s.toArray.size - m) = s.toArray.size by omega] at this
  exact this
end

end Go.Proofs.YtgobkbjkndfliaaGreatDoor
