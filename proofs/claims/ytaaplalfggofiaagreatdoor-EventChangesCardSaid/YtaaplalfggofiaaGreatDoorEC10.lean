/-
  Several texts in one: RefVal, DecC, DecP, CmpAll, TruP, SpanS, ZipP. Each says at its head what it holds.
-/
import Derived.Test.YtaaplalfggofiaaGreatDoorEC9
import Derived.Test.YtaaplalfggofiaaGreatDoorEC8
import Derived.Test.YtaaplalfggofiaaGreatDoorShelf
import Derived.Test.YtaaplalfggofiaaGreatDoorEC4
import Derived.Outline
import Derived.Lib.UnsafeStr
import Derived.Lib.Bytealg
import Derived.Deep.RegionHeld3
import Derived.IntWalk
import Derived.Test.YtaaplalfggofiaaGreatDoorEC6
import Derived.Test.YtaaplalfggofiaaGreatDoorEC7
import Derived.Test.YtaaplalfggofiaaGreatDoorEC3

/-
  wavestoreref03.Parse and Valid.
-/
namespace Go.Proofs.YtaaplalfggofiaaGreatDoor
open Go.RowKit

/-- what Parse says of a text -/
def ParseP (l : List UInt8) (v : Value) : Prop := match readR l with
  | some r => TextP (decOf 100000 r) v
  | none => ∃ e : Int, e ≠ 0 ∧ v = .tuple #[.string (bs []), .int .i64 e]
theorem sgn1_len (l : List UInt8) : (sgn1 l).2.length ≤ l.length := by
  cases l with
  | nil => exact Nat.le_refl _
  | cons c r =>
    rw [sgn1_cons]
    split
    · simp
    · split <;> simp
theorem dgs_len (l : List UInt8) : (dgs l).length ≤ l.length := (List.takeWhile_prefix _).length_le
theorem rst_len (l : List UInt8) : (rst l).length ≤ l.length := (List.dropWhile_suffix _).length_le
theorem fracR_len {l fs l3 : List UInt8} (h : fracR l = some (fs, l3)) : fs.length ≤ l.length := by
  cases l with
  | nil => injection h with h; injection h with h1 h2; subst h1; exact Nat.le_refl _
  | cons c r =>
    rw [fracR_cons] at h
    split at h
    · split at h
      · cases h
      · injection h with h; injection h with h1 h2; subst h1
        have := dgs_len r
        simp; omega
    · injection h with h; injection h with h1 h2; subst h1; exact Nat.zero_le _
theorem readR_len {l : List UInt8} {r : Raw} (h : readR l = some r) : r.whole.length ≤ 64 ∧ r.frac.length ≤ 64 := by
  unfold readR at h
  split at h
  · cases h
  · rename_i hl
    split at h
    · cases h
    · split at h
      · cases h
      · rename_i fs l3 hf
        split at h
        · cases h
        · split at h
          · injection h with h
            subst h
            have h1 := dgs_len (sgn1 l).2
            have h2 := sgn1_len l
            have h3 := fracR_len hf
            have h4 := rst_len (sgn1 l).2
            exact ⟨by dsimp only; omega, by dsimp only; omega⟩
          · cases h
theorem nrm_len (neg : Bool) (ds : List UInt8) (f : Int) : (nrm neg ds f).ds.length ≤ ds.length := by
  unfold nrm
  split
  · exact Nat.zero_le _
  · have h1 := (rdrop_prefix (ds.dropWhile zC)).length_le
    have h2 : (ds.dropWhile zC).length ≤ ds.length := (List.dropWhile_suffix _).length_le
    dsimp only
    omega
theorem expV_le (r : Raw) : -100000 ≤ expV 100000 r ∧ expV 100000 r ≤ 100000 := by
  have := clampE_le 100000 r.expo
  unfold expV
  split <;> omega

set_option maxRecDepth 100000 in
theorem rparse_any (s : ByteArray) (w : World) (hs : s.size ≤ 1000) : Calls Tryz.prog 175 #[.string s] w fun e w' => (∃ v, e = .returned v ∧ ParseP s.data.toList v) ∧ Below w.heap.size w w' := by
  go_enter Tryz.func175, Tryz.ntmps175
  go_wp2_with fail
  refine (rread_any s _ hs).mono ?_
  rintro e w1 ⟨⟨v, rfl, hv⟩, b1⟩
  have HB := hide b1
  clear b1
  cases hr : readR s.data.toList with
  | none =>
    have HP := hide (show ∀ v, ParseP s.data.toList v ↔ ∃ e : Int, e ≠ 0 ∧ v = .tuple #[.string (bs []), .int .i64 e] from fun v => by unfold ParseP; rw [hr])
    unfold ReadP at hv
    rw [hr] at hv
    clear hr
    obtain ⟨pb, pd, pf, rfl⟩ := hv
    unfold pv
    go_wp2_with fail
    go_ret2
    exact ⟨⟨_, rfl, (HP.out _).2 ⟨_, by decide, rfl⟩⟩, HB.out.alloc HB.out.size _⟩
  | some r =>
    have HP := hide (show ∀ v, ParseP s.data.toList v ↔ TextP (decOf 100000 r) v from fun v => by unfold ParseP; rw [hr])
    have hlen := readR_len hr
    have hex := expV_le r
    unfold ReadP at hv
    rw [hr] at hv
    clear hr
    obtain rfl := hv
    have hT := fun w => text_of r.neg (r.whole ++ r.frac) ((r.whole.length : Int) - 1 + expV 100000 r) (decOf 100000 r).neg (decOf 100000 r).ds (decOf 100000 r).fst rfl w (by rw [List.length_append]; omega) (by omega) (by omega) (by have := nrm_len r.neg (r.whole ++ r.frac) ((r.whole.length : Int) - 1 + expV 100000 r); rw [List.length_append] at this; show (nrm _ _ _).ds.length ≤ 200; omega)
    have HT := hide hT
    clear hT hlen hex
    unfold pv
    unfold pv at HT
    go_wp2_with fail
    refine (HT.out _).mono ?_
    rintro e w2 ⟨⟨v, rfl, hv⟩, b2⟩
    have HB2 := hide (bstep (HB.out.alloc HB.out.size _) b2)
    clear b2
    have HV := hide hv
    unfold TextP at hv
    split at hv
    · subst hv
      go_wp2_with fail
      go_ret2
      exact ⟨⟨_, rfl, (HP.out _).2 HV.out⟩, HB2.out⟩
    · obtain ⟨e, he, rfl⟩ := hv
      clear he
      go_wp2_with fail
      go_ret2
      exact ⟨⟨_, rfl, (HP.out _).2 HV.out⟩, HB2.out⟩

def rvalB (s : ByteArray) : Bool := (canonC 100000 s.data.toList).isSome
set_option maxRecDepth 100000 in
theorem rvalid_any (s : ByteArray) (w : World) (hs : s.size ≤ 1000) : Calls Tryz.prog 110 #[.string s] w fun e w' => e = .returned (.bool (rvalB s)) ∧ Below w.heap.size w w' := by
  go_enter Tryz.func110, Tryz.ntmps110
  go_wp2_with fail
  refine (rparse_any s _ hs).mono ?_
  rintro e w1 ⟨⟨v, rfl, hv⟩, b1⟩
  have HB := hide b1
  clear b1
  cases hr : readR s.data.toList with
  | none =>
    have HV := hide (show rvalB s = false by unfold rvalB canonC; rw [hr]; rfl)
    unfold ParseP at hv
    rw [hr] at hv
    clear hr
    obtain ⟨e, he, rfl⟩ := hv
    have t1 : (e == 0) = false := beq_eq_false_iff_ne.2 he
    clear he
    go_wp2_with fail
    go_ret
    exact ⟨by rw [HV.out]; rfl, HB.out⟩
  | some r =>
    have HV := hide (show rvalB s = (if fitB (decOf 100000 r) = true ∧ txt (decOf 100000 r) = s.data.toList then true else false) by unfold rvalB canonC; rw [hr]; simp only []; split <;> rfl)
    unfold ParseP at hv
    rw [hr] at hv
    clear hr
    replace hv : TextP (decOf 100000 r) v := hv
    unfold TextP at hv
    split at hv
    · rename_i hf
      subst hv
      by_cases ht : txt (decOf 100000 r) = s.data.toList
      · have t2 : ((bs (txt (decOf 100000 r))).toList == s.toList) = true := by
          rw [ByteArray.toList_eq, ByteArray.toList_eq]; exact beq_iff_eq.2 ht
        rw [if_pos ⟨hf, ht⟩] at HV
        clear ht hf
        go_wp2_with fail
        go_ret
        exact ⟨by rw [HV.out]; rfl, HB.out⟩
      · have t2 : ((bs (txt (decOf 100000 r))).toList == s.toList) = false := by
          rw [ByteArray.toList_eq, ByteArray.toList_eq]; exact beq_eq_false_iff_ne.2 ht
        rw [if_neg (fun h => ht h.2)] at HV
        clear ht hf
        go_wp2_with fail
        go_ret
        exact ⟨by rw [HV.out]; rfl, HB.out⟩
    · rename_i hf
      obtain ⟨e, he, rfl⟩ := hv
      have t1 : (e == 0) = false := beq_eq_false_iff_ne.2 he
      rw [if_neg (fun h => hf h.1)] at HV
      clear he hf
      go_wp2_with fail
      go_ret
      exact ⟨by rw [HV.out]; rfl, HB.out⟩

end Go.Proofs.YtaaplalfggofiaaGreatDoor

/-
  decimal.canonical, Valid, magnitude, compare, Compare.
-/
namespace Go.Proofs.YtaaplalfggofiaaGreatDoor
open Go.RowKit

def valB (s : ByteArray) : Bool := (canonC 1048576 s.data.toList).isSome
end Go.Proofs.YtaaplalfggofiaaGreatDoor

/-
  decimal.magnitude, compare, Compare.
-/
namespace Go.Proofs.YtaaplalfggofiaaGreatDoor
open Go.RowKit

section
variable {w W W' : World} {a b : Dec} {A B : Option Addr} {c d : Nat}
end

/-- the comparison, where both texts are canonical -/
def cmpB (s t : ByteArray) : Option Int := match canonC 1048576 s.data.toList, canonC 1048576 t.data.toList with
  | some a, some b => some (cmpD a b)
  | _, _ => none
end Go.Proofs.YtaaplalfggofiaaGreatDoor

/-
  condition.Compare, for any kind, operator and strings.
-/
namespace Go.Proofs.YtaaplalfggofiaaGreatDoor
open Go.RowKit

def eqS (a b : ByteArray) : Bool := a.toList == b.toList
def cmpBits (op : Int) (a b : ByteArray) : Bool × Bool :=
  if bitsB a.data.toList && bitsB b.data.toList && decide (a.size = b.size) then
    if op = 19 then ((eqP a.data.toList b.data.toList).1 && (eqP a.data.toList b.data.toList).2, (eqP a.data.toList b.data.toList).2)
    else if op = 20 then (!(eqP a.data.toList b.data.toList).1 && (eqP a.data.toList b.data.toList).2, (eqP a.data.toList b.data.toList).2)
    else if op = 21 then (eqS a b, true) else if op = 22 then (!eqS a b, true)
    else if knownB a.data.toList && knownB b.data.toList then (relC op (lexC a.data.toList b.data.toList), true) else (false, false)
  else (false, false)
def cmpReal (op : Int) (a b : ByteArray) : Bool × Bool :=
  if valB a && valB b then
    if op = 19 ∨ op = 21 then (eqS a b, true) else if op = 20 ∨ op = 22 then (!eqS a b, true)
    else (relC op ((cmpB a b).getD 0), true)
  else (false, false)
def cmpStr (op : Int) (a b : ByteArray) : Bool × Bool := if op = 19 ∨ op = 21 then (eqS a b, true) else if op = 20 ∨ op = 22 then (!eqS a b, true) else (false, false)
/-- the result of a comparison, and whether it is known -/
def cmpA (kind op : Int) (a b : ByteArray) : Bool × Bool :=
  if op < 19 ∨ 26 < op then (false, false) else if kind = 0 then cmpBits op a b else if kind = 1 then cmpReal op a b else if kind = 2 then cmpStr op a b else (false, false)
end Go.Proofs.YtaaplalfggofiaaGreatDoor

/-
  What a resolved condition says at one moment, and which trees are resolved conditions. Plain; no program in sight.
-/
namespace Go.Proofs.YtaaplalfggofiaaGreatDoor
open Go.RowKit

def bitS (p : Bool × Bool) : ByteArray := if p.2 then (if p.1 then ⟨#[49]⟩ else ⟨#[48]⟩) else ⟨#[120]⟩
def knownS (v : ByteArray) : Bool := knownB v.data.toList
def applyS (k : Int) (l : List ByteArray) : ByteArray := ⟨(applyL k 0 0 (vL2 l)).toArray⟩
def truB (env : Int → ByteArray) (n : Nd) (l : List ByteArray) : ByteArray :=
  if n.kind = 17 then ⟨#[49]⟩ else if n.kind = 18 then ⟨#[48]⟩
  else if 19 ≤ n.kind ∧ n.kind ≤ 26 then (match n.kids with | x :: y :: _ => bitS (cmpA (kindK x) n.kind (valF env x) (valF env y)) | _ => ⟨#[]⟩)
  else if n.kind = 27 then (match n.kids with | x :: _ => bitS (knownS (valF env x), true) | _ => ⟨#[]⟩)
  else if n.kind = 28 then (match l with | x :: _ => applyS 8 [x] | _ => ⟨#[]⟩)
  else if n.kind = 29 then (match l with | x :: y :: _ => applyS 9 [x, y] | _ => ⟨#[]⟩)
  else if n.kind = 30 then (match l with | x :: y :: _ => applyS 10 [x, y] | _ => ⟨#[]⟩)
  else bitS (decide (valF env n = ⟨#[49]⟩), knownS (valF env n))
def truF (env : Int → ByteArray) (n : Nd) : ByteArray := n.fold (truB env)
theorem truF_eq (env : Int → ByteArray) (n : Nd) : truF env n = truB env n (n.kids.map (truF env)) := Nd.fold_eq _ n

end Go.Proofs.YtaaplalfggofiaaGreatDoor

/-
  Lists of spans: what it means that they are a function's values over a range, each as long as can be; such a list is one alone. No program.
-/
namespace Go.Proofs.YtaaplalfggofiaaGreatDoor

structure Spn where
  f : Int
  t : Int
  v : ByteArray
/-- the spans of g from a to b -/
def Spans (g : Int → ByteArray) : Int → Int → List Spn → Prop
  | _, _, [] => False
  | a, b, [x] => x.f = a ∧ x.t = b ∧ a ≤ b ∧ ∀ t, a ≤ t → t ≤ b → g t = x.v
  | a, b, x :: y :: r => x.f = a ∧ a ≤ x.t ∧ (∀ t, a ≤ t → t ≤ x.t → g t = x.v) ∧ x.v ≠ y.v ∧ Spans g (x.t + 1) b (y :: r)
section
variable {g h : Int → ByteArray} {a b e e' : Int} {l m : List Spn} {x y : Spn}
theorem Spans.ne (hs : Spans g a b l) : l ≠ [] := by
  cases l with
  | nil => exact hs.elim
  | cons x l => simp
theorem Spans.head (hs : Spans g a b (x :: l)) : x.f = a ∧ a ≤ x.t ∧ g a = x.v ∧ ∀ t, a ≤ t → t ≤ x.t → g t = x.v := by
  cases l with
  | nil => obtain ⟨h1, h2, h3, h4⟩ := hs; exact ⟨h1, by omega, h4 a (by omega) (by omega), fun t h5 h6 => h4 t h5 (by omega)⟩
  | cons y l => obtain ⟨h1, h2, h3, _⟩ := hs; exact ⟨h1, h2, h3 a (by omega) (by omega), h3⟩
theorem Spans.le (hs : Spans g a b l) : a ≤ b := by
  induction l generalizing a with
  | nil => exact hs.elim
  | cons x l ih =>
    cases l with
    | nil => exact hs.2.2.1
    | cons y l => obtain ⟨_, h2, _, _, h5⟩ := hs; have := ih h5; omega
theorem Spans.uniq (hs : Spans g a b l) (hm : Spans g a b m) : l = m := by
  induction l generalizing a m with
  | nil => exact hs.elim
  | cons x l ih =>
    cases m with
    | nil => exact hm.elim
    | cons x' m =>
      obtain ⟨f1, l1, v1, c1⟩ := hs.head
      obtain ⟨f2, l2, v2, c2⟩ := hm.head
      have hv : x.v = x'.v := v1.symm.trans v2
      have key : ∀ {p q : Spn} {r s : List Spn}, Spans g a b (p :: r) → Spans g a b (q :: s) → p.v = q.v → ¬ p.t < q.t := fun {p q r s} hp hq hpq hlt => by
        obtain ⟨_, hq2, _, cq⟩ := hq.head
        cases r with
        | nil =>
          obtain ⟨_, h2, _, _⟩ := hp
          cases s with
          | nil => obtain ⟨_, h3, _, _⟩ := hq; omega
          | cons z s => obtain ⟨_, _, _, _, h5⟩ := hq; have := h5.le; omega
        | cons z r =>
          obtain ⟨_, h2, _, h4, h5⟩ := hp
          obtain ⟨_, _, h6, _⟩ := h5.head
          have := cq (p.t + 1) (by omega) (by omega)
          exact h4 (hpq.trans (this.symm.trans h6))
      have ht : x.t = x'.t := by
        have h1 := key hs hm hv
        have h2 := key hm hs hv.symm
        omega
      have hx : x = x' := by
        cases x
        cases x'
        simp_all
      subst hx
      cases l with
      | nil =>
        cases m with
        | nil => rfl
        | cons y m =>
          obtain ⟨_, h2, _, _⟩ := hs
          obtain ⟨_, _, _, _, h5⟩ := hm
          have := h5.le
          omega
      | cons y l =>
        cases m with
        | nil =>
          obtain ⟨_, h2, _, _⟩ := hm
          obtain ⟨_, _, _, _, h5⟩ := hs
          have := h5.le
          omega
        | cons y' m =>
          obtain ⟨_, _, _, _, h5⟩ := hs
          obtain ⟨_, _, _, _, h6⟩ := hm
          rw [ih h5 h6]
theorem Spans.congr (hs : Spans g a b l) (hg : ∀ t, a ≤ t → t ≤ b → h t = g t) : Spans h a b l := by
  induction l generalizing a with
  | nil => exact hs.elim
  | cons x l ih =>
    cases l with
    | nil => obtain ⟨h1, h2, h3, h4⟩ := hs; exact ⟨h1, h2, h3, fun t h5 h6 => (hg t h5 h6).trans (h4 t h5 h6)⟩
    | cons y l =>
      obtain ⟨h1, h2, h3, h4, h5⟩ := hs
      have := h5.le
      exact ⟨h1, h2, fun t h6 h7 => (hg t h6 (by omega)).trans (h3 t h6 h7), h4, ih h5 fun t h6 h7 => hg t (by omega) h7⟩
/-- the first span -/
theorem Spans.one (hle : a ≤ b) (hg : ∀ t, a ≤ t → t ≤ b → g t = x.v) (hf : x.f = a) (ht : x.t = b) : Spans g a b [x] := ⟨hf, ht, hle, hg⟩
/-- the value goes on -/
theorem Spans.same (hs : Spans g a e (l ++ [x])) (hle : e ≤ e') (hg : ∀ t, e < t → t ≤ e' → g t = x.v) : Spans g a e' (l ++ [⟨x.f, e', x.v⟩]) := by
  induction l generalizing a with
  | nil => obtain ⟨h1, h2, h3, h4⟩ := hs; exact ⟨h1, rfl, by omega, fun t h5 h6 => by
      rcases Int.lt_or_le e t with h7 | h7
      · exact hg t h7 h6
      · exact h4 t h5 h7⟩
  | cons y l ih =>
    cases l with
    | nil => obtain ⟨h1, h2, h3, h4, h5⟩ := hs; exact ⟨h1, h2, h3, h4, ih h5⟩
    | cons z l => obtain ⟨h1, h2, h3, h4, h5⟩ := hs; exact ⟨h1, h2, h3, h4, ih h5⟩
/-- another value follows -/
theorem Spans.more (hs : Spans g a e (l ++ [x])) (hle : e < e') (hg : ∀ t, e < t → t ≤ e' → g t = y.v) (hf : y.f = e + 1) (ht : y.t = e') (hv : x.v ≠ y.v) : Spans g a e' (l ++ [x] ++ [y]) := by
  induction l generalizing a with
  | nil =>
    obtain ⟨h1, h2, h3, h4⟩ := hs
    exact ⟨h1, by omega, fun t h5 h6 => h4 t h5 (by omega), hv, by omega, ht, by omega, fun t h5 h6 => hg t (by omega) h6⟩
  | cons z l ih =>
    cases l with
    | nil => obtain ⟨h1, h2, h3, h4, h5⟩ := hs; exact ⟨h1, h2, h3, h4, ih h5⟩
    | cons u l => obtain ⟨h1, h2, h3, h4, h5⟩ := hs; exact ⟨h1, h2, h3, h4, ih h5⟩
theorem Spans.last (hs : Spans g a b (l ++ [x])) : x.t = b ∧ g b = x.v := by
  induction l generalizing a with
  | nil => obtain ⟨h1, h2, h3, h4⟩ := hs; exact ⟨h2, h4 b h3 (Int.le_refl _)⟩
  | cons y l ih =>
    cases l with
    | nil => obtain ⟨_, _, _, _, h5⟩ := hs; exact ih h5
    | cons z l => obtain ⟨_, _, _, _, h5⟩ := hs; exact ih h5
/-- each span: its place, its value -/
theorem Spans.mem (hs : Spans g a b l) (hx : x ∈ l) : a ≤ x.f ∧ x.f ≤ x.t ∧ x.t ≤ b ∧ ∀ t, x.f ≤ t → t ≤ x.t → g t = x.v := by
  induction l generalizing a with
  | nil => cases hx
  | cons y l ih =>
    obtain ⟨h1, h2, _, h4⟩ := hs.head
    have hle := hs.le
    rcases List.mem_cons.1 hx with rfl | hx
    · refine ⟨by omega, by omega, ?_, fun t h5 h6 => h4 t (by omega) h6⟩
      cases l with
      | nil => obtain ⟨_, h6, _⟩ := hs; omega
      | cons z l => obtain ⟨_, _, _, _, h5⟩ := hs; have := h5.le; omega
    · cases l with
      | nil => cases hx
      | cons z l =>
        obtain ⟨_, _, _, _, h5⟩ := hs
        obtain ⟨k1, k2, k3, k4⟩ := ih h5 hx
        exact ⟨by omega, k2, k3, k4⟩
/-- two neighbours -/
theorem Spans.next (hs : Spans g a b l) {i : Nat} (hi : l[i]? = some x) (hj : l[i + 1]? = some y) : y.f = x.t + 1 ∧ x.v ≠ y.v := by
  induction l generalizing a i with
  | nil => simp at hi
  | cons z l ih =>
    cases l with
    | nil => simp at hj
    | cons u l =>
      obtain ⟨_, _, _, h4, h5⟩ := hs
      cases i with
      | zero =>
        simp at hi hj
        subst hi hj
        exact ⟨h5.head.1, h4⟩
      | succ i => exact ih h5 (by simpa using hi) (by simpa using hj)
theorem Spans.first (hs : Spans g a b l) (hi : l[0]? = some x) : x.f = a ∧ g a = x.v := by
  cases l with
  | nil => simp at hi
  | cons z l => simp at hi; subst hi; exact ⟨hs.head.1, hs.head.2.2.1⟩
end

end Go.Proofs.YtaaplalfggofiaaGreatDoor

/-
  Rows of several lists of spans: what they say, plain.
-/
namespace Go.Proofs.YtaaplalfggofiaaGreatDoor

/-- the spans of a list that end before a time -/
def idx (l : List Spn) (t : Int) : Nat := (l.takeWhile fun x => decide (x.t < t)).length
theorem idx_le (l : List Spn) (t : Int) : idx l t ≤ l.length := by
  unfold idx
  exact (List.takeWhile_sublist _).length_le
theorem idx_cons (x : Spn) (l : List Spn) (t : Int) : idx (x :: l) t = if x.t < t then idx l t + 1 else 0 := by
  unfold idx
  rw [List.takeWhile_cons]
  by_cases h : x.t < t
  · rw [if_pos h, if_pos (decide_eq_true h)]; rfl
  · rw [if_neg h, if_neg (by simpa using h)]; rfl
theorem idx_mono {t u : Int} (h : t ≤ u) : ∀ l, idx l t ≤ idx l u
  | [] => Nat.le_refl _
  | x :: l => by
    rw [idx_cons, idx_cons]
    have := idx_mono h l
    by_cases h1 : x.t < t
    · rw [if_pos h1, if_pos (by omega)]; omega
    · rw [if_neg h1]; omega
/-- the one step of the search -/
theorem idx_step : ∀ {l : List Spn} {k : Nat} {x : Spn} {t : Int}, k ≤ idx l t → l[k]? = some x → (x.t < t ↔ k + 1 ≤ idx l t)
  | y :: l, 0, x, t, _, hx => by
    simp at hx
    subst hx
    rw [idx_cons]
    by_cases h : y.t < t
    · rw [if_pos h]; exact ⟨fun _ => by omega, fun _ => h⟩
    · rw [if_neg h]; exact ⟨fun h' => absurd h' h, fun h' => by omega⟩
  | y :: l, k + 1, x, t, hk, hx => by
    rw [idx_cons] at hk ⊢
    by_cases h : y.t < t
    · rw [if_pos h] at hk ⊢
      have := idx_step (l := l) (k := k) (x := x) (t := t) (by omega) (by simpa using hx)
      rw [this]; omega
    · rw [if_neg h] at hk; omega
theorem idx_first {g : Int → ByteArray} {a b : Int} {l : List Spn} (h : Spans g a b l) : idx l a = 0 := by
  cases l with
  | nil => rfl
  | cons x l => rw [idx_cons, if_neg (by have := h.head.2.1; omega)]
/-- the span of a time -/
theorem idx_at {g : Int → ByteArray} {a b t : Int} {l : List Spn} (h : Spans g a b l) (h1 : a ≤ t) (h2 : t ≤ b) : ∃ x, l[idx l t]? = some x ∧ x.f ≤ t ∧ t ≤ x.t ∧ x.t ≤ b ∧ (∀ u, t ≤ u → u ≤ x.t → g u = x.v) ∧ idx l t + 1 ≤ idx l (x.t + 1) := by
  induction l generalizing a with
  | nil => exact h.elim
  | cons x l ih =>
    obtain ⟨h3, h4, h5, h6⟩ := h.head
    rw [idx_cons]
    by_cases hx : x.t < t
    · rw [if_pos hx]
      cases l with
      | nil => obtain ⟨_, k, _⟩ := h; omega
      | cons y l =>
        obtain ⟨_, _, _, _, k⟩ := h
        obtain ⟨z, k1, k2, k3, k4, k5, k6⟩ := ih k (by omega)
        refine ⟨z, by simpa using k1, k2, k3, k4, k5, ?_⟩
        rw [idx_cons x, if_pos (by omega)]
        omega
    · rw [if_neg hx]
      refine ⟨x, rfl, by omega, by omega, (h.mem (x := x) (by simp)).2.2.1, fun u k1 k2 => h6 u (by omega) k2, ?_⟩
      rw [idx_cons, if_pos (by omega)]
      omega

structure Rw where
  f : Int
  t : Int
  vs : List ByteArray
/-- rows that cover [a, b) and hold the values of functions -/
def Cov (gs : List (Int → ByteArray)) : Int → Int → List Rw → Prop
  | a, b, [] => a = b
  | a, b, r :: rs => r.f = a ∧ a ≤ r.t ∧ (∀ u, a ≤ u → u ≤ r.t → r.vs = gs.map (· u)) ∧ Cov gs (r.t + 1) b rs
theorem Cov.snoc {gs : List (Int → ByteArray)} {a b : Int} {rs : List Rw} (h : Cov gs a b rs) {r : Rw} (h1 : r.f = b) (h2 : b ≤ r.t) (h3 : ∀ u, b ≤ u → u ≤ r.t → r.vs = gs.map (· u)) : Cov gs a (r.t + 1) (rs ++ [r]) := by
  induction rs generalizing a with
  | nil =>
    have : a = b := h
    subst this
    exact ⟨h1, h2, h3, rfl⟩
  | cons x rs ih =>
    obtain ⟨k1, k2, k3, k4⟩ := h
    exact ⟨k1, k2, k3, ih k4⟩
theorem Cov.le {gs : List (Int → ByteArray)} {a b : Int} {rs : List Rw} (h : Cov gs a b rs) : a ≤ b := by
  induction rs generalizing a with
  | nil => exact Int.le_of_eq h
  | cons x rs ih => obtain ⟨k1, k2, k3, k4⟩ := h; have := ih k4; omega

/-- lists over one range with their functions -/
def AllSp (a b : Int) : List (Int → ByteArray) → List (List Spn) → Prop
  | [], [] => True
  | g :: gs, l :: ls => Spans g a b l ∧ AllSp a b gs ls
  | _, _ => False
theorem AllSp.len {a b : Int} : ∀ {gs : List (Int → ByteArray)} {ls : List (List Spn)}, AllSp a b gs ls → gs.length = ls.length
  | [], [], _ => rfl
  | g :: gs, l :: ls, h => by have := AllSp.len h.2; simp [this]
theorem AllSp.snoc {a b : Int} {g : Int → ByteArray} {l : List Spn} (h1 : Spans g a b l) : ∀ {gs : List (Int → ByteArray)} {ls : List (List Spn)}, AllSp a b gs ls → AllSp a b (gs ++ [g]) (ls ++ [l])
  | [], [], _ => ⟨h1, trivial⟩
  | _ :: _, _ :: _, h => ⟨h.1, AllSp.snoc h1 h.2⟩
theorem AllSp.at {a b : Int} : ∀ {gs : List (Int → ByteArray)} {ls : List (List Spn)} {i : Nat} {l : List Spn}, AllSp a b gs ls → ls[i]? = some l → ∃ g, gs[i]? = some g ∧ Spans g a b l
  | [], [], _, _, _, hl => by simp at hl
  | g :: gs, l :: ls, 0, l', h, hl => by simp at hl; subst hl; exact ⟨g, rfl, h.1⟩
  | g :: gs, l :: ls, i + 1, l', h, hl => by
    obtain ⟨g', h1, h2⟩ := AllSp.at h.2 (i := i) (by simpa using hl)
    exact ⟨g', by simpa using h1, h2⟩

/-- the value of a list at a time, the end of its span -/
def valL (l : List Spn) (t : Int) : ByteArray := match l[idx l t]? with | some x => x.v | none => ⟨#[]⟩
def endL (l : List Spn) (t : Int) : Int := match l[idx l t]? with | some x => x.t | none => 0
def endLs (ls : List (List Spn)) (t b : Int) : Int := ls.foldl (fun e l => min e (endL l t)) b
theorem endLs_snoc (ls : List (List Spn)) (l : List Spn) (t b : Int) : endLs (ls ++ [l]) t b = min (endLs ls t b) (endL l t) := by unfold endLs; rw [List.foldl_append]; rfl
def cnt (ls : List (List Spn)) (t : Int) : Nat := (ls.map fun l => idx l t).sum
theorem cnt_mono {t u : Int} (h : t ≤ u) : ∀ ls, cnt ls t ≤ cnt ls u
  | [] => Nat.le_refl _
  | l :: ls => by
    have h1 := cnt_mono h ls
    have h2 := idx_mono h l
    unfold cnt at *
    simp only [List.map_cons, List.sum_cons]
    omega
theorem cnt_le (t : Int) : ∀ ls, cnt ls t ≤ (ls.map List.length).sum
  | [] => Nat.le_refl _
  | l :: ls => by
    have h1 := cnt_le t ls
    have h2 := idx_le l t
    unfold cnt at *
    simp only [List.map_cons, List.sum_cons]
    omega
/-- what a round brings -/
theorem row_at {a b t : Int} (h1 : a ≤ t) (h2 : t ≤ b) : ∀ {gs : List (Int → ByteArray)} {ls : List (List Spn)} (B : Int), AllSp a b gs ls → t ≤ B → B ≤ b →
    t ≤ endLs ls t B ∧ endLs ls t B ≤ B ∧ (∀ u, t ≤ u → u ≤ endLs ls t B → ls.map (valL · t) = gs.map (· u)) ∧ (endLs ls t B = B ∨ cnt ls t + 1 ≤ cnt ls (endLs ls t B + 1))
  | [], [], B, _, k1, k2 => ⟨k1, Int.le_refl _, fun _ _ _ => rfl, .inl rfl⟩
  | [], _ :: _, _, h, _, _ => h.elim
  | _ :: _, [], _, h, _, _ => h.elim
  | g :: gs, l :: ls, B, h, k1, k2 => by
    obtain ⟨x, e1, e2, e3, e4, e5, e6⟩ := idx_at h.1 h1 h2
    have hE : endL l t = x.t := by unfold endL; rw [e1]
    have hV : valL l t = x.v := by unfold valL; rw [e1]
    have hs : endLs (l :: ls) t B = endLs ls t (min B x.t) := by unfold endLs; rw [List.foldl_cons, hE]
    obtain ⟨c1, c2, c3, c4⟩ := row_at h1 h2 (min B x.t) h.2 (by omega) (by omega)
    rw [hs]
    refine ⟨c1, by omega, fun u u1 u2 => ?_, ?_⟩
    · rw [List.map_cons, List.map_cons, c3 u u1 u2, hV, e5 u u1 (by omega)]
    · have m1 := idx_mono (show t ≤ endLs ls t (min B x.t) + 1 by omega) l
      have m2 := cnt_mono (show t ≤ endLs ls t (min B x.t) + 1 by omega) ls
      have q : ∀ u, cnt (l :: ls) u = idx l u + cnt ls u := fun u => by unfold cnt; simp
      rw [q, q]
      rcases c4 with c4 | c4
      · rcases Int.lt_or_le x.t B with h5 | h5
        · right
          have h6 : endLs ls t (min B x.t) = x.t := by omega
          rw [h6] at m2 ⊢
          omega
        · left; omega
      · right; omega

/-- a row behind a list of spans -/
def spStep (out : List Spn) (a b : Int) (v : ByteArray) : List Spn := match out.getLast? with
  | none => [⟨a, b, v⟩]
  | some x => if x.v = v then out.dropLast ++ [⟨x.f, b, x.v⟩] else out ++ [⟨a, b, v⟩]
theorem spStep_snoc (l : List Spn) (x : Spn) (a b : Int) (v : ByteArray) : spStep (l ++ [x]) a b v = if x.v = v then l ++ [⟨x.f, b, x.v⟩] else l ++ [x] ++ [⟨a, b, v⟩] := by
  unfold spStep
  rw [List.getLast?_append]
  simp
def spL (F : List ByteArray → ByteArray) (rows : List Rw) : List Spn := rows.foldl (fun out r => spStep out r.f r.t (F r.vs)) []
theorem spL_snoc (F : List ByteArray → ByteArray) (rows : List Rw) (r : Rw) : spL F (rows ++ [r]) = spStep (spL F rows) r.f r.t (F r.vs) := by unfold spL; rw [List.foldl_append]; rfl
theorem spL_len (F : List ByteArray → ByteArray) (rows : List Rw) : (spL F rows).length ≤ rows.length := by
  suffices h : ∀ (m : Nat) (rows : List Rw), rows.length = m → (spL F rows).length ≤ rows.length from h _ rows rfl
  intro m
  induction m with
  | zero => intro rows h; rw [List.eq_nil_of_length_eq_zero h]; exact Nat.le_refl _
  | succ m ih =>
    intro rows h
    rcases List.eq_nil_or_concat rows with rfl | ⟨rs, r, rfl⟩
    · cases h
    · rw [List.concat_eq_append] at *
      rw [spL_snoc]
      have h1 := ih rs (by simpa using h)
      rcases List.eq_nil_or_concat (spL F rs) with h2 | ⟨l, x, h2⟩
      · rw [h2]; simp [spStep]
      · rw [List.concat_eq_append] at h2
        rw [h2, spStep_snoc]
        rw [h2] at h1
        simp only [List.length_append, List.length_cons, List.length_nil] at h1 ⊢
        split <;> simp <;> omega
theorem spL_spans {F : List ByteArray → ByteArray} {gs : List (Int → ByteArray)} {a b : Int} {rows : List Rw} (h : Cov gs a b rows) (hne : rows ≠ []) : Spans (fun u => F (gs.map (· u))) a (b - 1) (spL F rows) := by
  suffices H : ∀ (m : Nat) (rows : List Rw) (b : Int), rows.length = m → Cov gs a b rows → rows ≠ [] → Spans (fun u => F (gs.map (· u))) a (b - 1) (spL F rows) from H _ rows b rfl h hne
  intro m
  induction m with
  | zero => intro rows b h1 _ h2; exact absurd (List.eq_nil_of_length_eq_zero h1) h2
  | succ m ih =>
    intro rows b h1 h2 h3
    rcases List.eq_nil_or_concat rows with rfl | ⟨rs, r, rfl⟩
    · exact absurd rfl h3
    · rw [List.concat_eq_append] at *
      have key : ∀ {rs : List Rw} {a : Int}, Cov gs a b (rs ++ [r]) → Cov gs a r.f rs ∧ r.f ≤ r.t ∧ (∀ u, r.f ≤ u → u ≤ r.t → r.vs = gs.map (· u)) ∧ b = r.t + 1 := by
        intro rs
        induction rs with
        | nil => intro a h; obtain ⟨k1, k2, k3, k4⟩ := h; have k4 : r.t + 1 = b := k4; subst k1; exact ⟨rfl, k2, k3, k4.symm⟩
        | cons x rs ih => intro a h; obtain ⟨k1, k2, k3, k4⟩ := h; obtain ⟨j1, j2, j3, j4⟩ := ih k4; exact ⟨⟨k1, k2, k3, j1⟩, j2, j3, j4⟩
      obtain ⟨k1, k2, k3, k4⟩ := key h2
      have kb : b - 1 = r.t := by omega
      rw [spL_snoc, kb]
      have hg : ∀ u, r.f ≤ u → u ≤ r.t → F (gs.map (· u)) = F r.vs := fun u u1 u2 => by rw [k3 u u1 u2]
      rcases List.eq_nil_or_concat rs with rfl | ⟨rs', r', rfl⟩
      · have k1 : a = r.f := k1
        exact Spans.one (by omega) (fun u u1 u2 => hg u (by omega) u2) k1.symm rfl
      · rw [List.concat_eq_append] at *
        have h4 := ih _ r.f (by simpa using h1) k1 (by simp)
        rcases List.eq_nil_or_concat (spL F (rs' ++ [r'])) with h5 | ⟨l, x, h5⟩
        · rw [h5] at h4; exact h4.elim
        · rw [List.concat_eq_append] at h5
          rw [h5] at h4 ⊢
          rw [spStep_snoc]
          split
          · rename_i hv
            exact Spans.same (g := fun u => F (gs.map (· u))) h4 (by omega) fun u u1 u2 => (hg u (by omega) u2).trans hv.symm
          · rename_i hv
            exact Spans.more (g := fun u => F (gs.map (· u))) (y := ⟨r.f, r.t, F r.vs⟩) h4 (by omega) (fun u u1 u2 => hg u (by omega) u2) (by show r.f = _; omega) rfl hv

end Go.Proofs.YtaaplalfggofiaaGreatDoor
