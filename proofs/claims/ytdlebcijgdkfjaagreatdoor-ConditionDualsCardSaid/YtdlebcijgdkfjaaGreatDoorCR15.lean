/-
  Several texts in one: DecS, RefDig. Each says at its head what it holds.
-/
import Derived.Test.YtdlebcijgdkfjaaGreatDoorCR7

/-
  Exact decimals as texts: the form of a text, its parts, canonical texts, and the comparison; plain definitions and facts, no program.
-/
namespace Go.Proofs.YtdlebcijgdkfjaaGreatDoor

def dgC (c : UInt8) : Bool := decide (48 ≤ c.toNat) && decide (c.toNat ≤ 57)
def zC (c : UInt8) : Bool := c == 48
def dgs (l : List UInt8) : List UInt8 := l.takeWhile dgC
def rst (l : List UInt8) : List UInt8 := l.dropWhile dgC
/-- a sign at the front -/
def sgn1 : List UInt8 → Bool × List UInt8
  | [] => (false, [])
  | c :: r => if c = 45 then (true, r) else if c = 43 then (false, r) else (false, c :: r)
/-- what a text says: sign, digits ahead of and behind the point, sign and digits of the exponent -/
structure Raw where
  neg : Bool
  whole : List UInt8
  frac : List UInt8
  down : Bool
  expo : List UInt8
def fracR : List UInt8 → Option (List UInt8 × List UInt8)
  | [] => some ([], [])
  | c :: r => if c = 46 then (if dgs r = [] then none else some (dgs r, rst r)) else some ([], c :: r)
def expR : List UInt8 → Option (Bool × List UInt8 × List UInt8)
  | [] => some (false, [], [])
  | c :: r => if c = 101 ∨ c = 69 then (if dgs (sgn1 r).2 = [] then none else some ((sgn1 r).1, dgs (sgn1 r).2, rst (sgn1 r).2)) else some (false, [], c :: r)
theorem sgn1_cons (c : UInt8) (r : List UInt8) : sgn1 (c :: r) = if c = 45 then (true, r) else if c = 43 then (false, r) else (false, c :: r) := rfl
theorem fracR_cons (c : UInt8) (r : List UInt8) : fracR (c :: r) = if c = 46 then (if dgs r = [] then none else some (dgs r, rst r)) else some ([], c :: r) := rfl
theorem expR_cons (c : UInt8) (r : List UInt8) : expR (c :: r) = if c = 101 ∨ c = 69 then (if dgs (sgn1 r).2 = [] then none else some ((sgn1 r).1, dgs (sgn1 r).2, rst (sgn1 r).2)) else some (false, [], c :: r) := rfl
def readR (s : List UInt8) : Option Raw :=
  if 64 < s.length then none
  else if dgs (sgn1 s).2 = [] then none
  else match fracR (rst (sgn1 s).2) with
    | none => none
    | some (fs, l3) => match expR l3 with
      | none => none
      | some (dn, es, l4) => if l4 = [] then some ⟨(sgn1 s).1, dgs (sgn1 s).2, fs, dn, es⟩ else none
def dv (c : UInt8) : Nat := c.toNat - 48
def clampE (C : Nat) (es : List UInt8) : Nat := es.foldl (fun e c => min C (10 * e + dv c)) 0
def expV (C : Nat) (r : Raw) : Int := if r.down then -(clampE C r.expo : Int) else (clampE C r.expo : Int)

/-- a number: its sign, its digits without zeros at the ends, the exponent of the first one -/
structure Dec where
  neg : Bool
  ds : List UInt8
  fst : Int
def dec0 : Dec := ⟨false, [], 0⟩
def rdrop (l : List UInt8) : List UInt8 := (l.reverse.dropWhile zC).reverse
def nrm (neg : Bool) (ds : List UInt8) (f : Int) : Dec :=
  if rdrop (ds.dropWhile zC) = [] then dec0 else ⟨neg, rdrop (ds.dropWhile zC), f - ((ds.length : Int) - (ds.dropWhile zC).length)⟩
def decOf (C : Nat) (r : Raw) : Dec := nrm r.neg (r.whole ++ r.frac) ((r.whole.length : Int) - 1 + expV C r)

def decN (n : Nat) : List UInt8 := if n < 10 then [UInt8.ofNat (48 + n)] else decN (n / 10) ++ [UInt8.ofNat (48 + n % 10)]
termination_by n
def decI (f : Int) : List UInt8 := if f < 0 then 45 :: decN f.natAbs else decN f.natAbs
def txt (d : Dec) : List UInt8 := match d.ds with
  | [] => [48]
  | c :: cs => (if d.neg then [45] else []) ++ (c :: ((if cs = [] then [] else 46 :: cs) ++ 101 :: decI d.fst))
/-- a number that has a text -/
def fitB (d : Dec) : Bool := d.ds.isEmpty || (decide (d.ds.length ≤ 17) && decide (-400 ≤ d.fst) && decide (d.fst ≤ 400))
def canonC (C : Nat) (s : List UInt8) : Option Dec := match readR s with
  | none => none
  | some r => if fitB (decOf C r) = true ∧ txt (decOf C r) = s then some (decOf C r) else none
/-- a number in its form -/
structure DecOk (d : Dec) : Prop where
  digs : ∀ c ∈ d.ds, dgC c = true
  head : ∀ c, d.ds.head? = some c → c ≠ 48
  last : ∀ c, d.ds.getLast? = some c → c ≠ 48
  len : d.ds.length ≤ 17
  f0 : -400 ≤ d.fst
  f1 : d.fst ≤ 400
  zero : d.ds = [] → d.neg = false ∧ d.fst = 0

theorem rdrop_snoc (l : List UInt8) (c : UInt8) : rdrop (l ++ [c]) = if c = 48 then rdrop l else l ++ [c] := by
  unfold rdrop
  rw [List.reverse_append]
  simp only [List.reverse_cons, List.reverse_nil, List.nil_append, List.singleton_append, List.dropWhile_cons]
  by_cases h : c = 48
  · simp [zC, h]
  · have : zC c = false := by simp [zC, h]
    rw [this, if_neg h]
    simp
theorem rdrop_last (l : List UInt8) : ∀ c, (rdrop l).getLast? = some c → c ≠ 48 := by
  intro c h
  unfold rdrop at h
  rw [List.getLast?_reverse] at h
  rintro rfl
  have h1 := List.head?_dropWhile_not zC l.reverse
  rw [h] at h1
  exact absurd h1 (by decide)
theorem rdrop_prefix (l : List UInt8) : rdrop l <+: l := by
  unfold rdrop
  have := List.dropWhile_suffix (l := l.reverse) zC
  rw [← List.reverse_prefix] at this
  simpa using this
theorem rdrop_of_last {l : List UInt8} (h : ∀ c, l.getLast? = some c → c ≠ 48) : rdrop l = l := by
  unfold rdrop
  have : l.reverse.dropWhile zC = l.reverse := by
    cases hr : l.reverse with
    | nil => rfl
    | cons c cs =>
      have h1 := h c (by rw [← List.head?_reverse, hr]; rfl)
      rw [List.dropWhile_cons, if_neg (by simp [zC, h1])]
  rw [this, List.reverse_reverse]
theorem drop_head (l : List UInt8) : ∀ c, (l.dropWhile zC).head? = some c → c ≠ 48 := by
  intro c h
  rintro rfl
  have h1 := List.head?_dropWhile_not zC l
  rw [h] at h1
  exact absurd h1 (by decide)
theorem drop_of_head {l : List UInt8} (h : ∀ c, l.head? = some c → c ≠ 48) : l.dropWhile zC = l := by
  cases l with
  | nil => rfl
  | cons c cs => rw [List.dropWhile_cons, if_neg (by simp [zC, h c rfl])]

theorem dgs_all (l : List UInt8) : ∀ c ∈ dgs l, dgC c = true := by
  unfold dgs
  induction l with
  | nil => intro c h; cases h
  | cons a l ih =>
    intro c h
    rw [List.takeWhile_cons] at h
    split at h
    · rcases List.mem_cons.1 h with rfl | h
      · assumption
      · exact ih c h
    · cases h
theorem fracR_all {l fs l3 : List UInt8} (h : fracR l = some (fs, l3)) : ∀ c ∈ fs, dgC c = true := by
  unfold fracR at h
  split at h
  · injection h with h; injection h with h1 h2; subst h1; intro c hc; cases hc
  · split at h
    · split at h
      · cases h
      · injection h with h; injection h with h1 h2; rw [← h1]; exact dgs_all _
    · injection h with h; injection h with h1 h2; subst h1; intro c hc; cases hc
theorem readR_some {s : List UInt8} {r : Raw} (h : readR s = some r) : ∀ c ∈ r.whole ++ r.frac, dgC c = true := by
  unfold readR at h
  split at h
  · cases h
  · split at h
    · cases h
    · split at h
      · cases h
      · rename_i fs l3 hf
        split at h
        · cases h
        · split at h
          · injection h with h
            subst h
            intro c hc
            rcases List.mem_append.1 hc with hc | hc
            · exact dgs_all _ c hc
            · exact fracR_all hf c hc
          · cases h

theorem nrm_ok {neg : Bool} {ds : List UInt8} {f : Int} (hd : ∀ c ∈ ds, dgC c = true) (hf : fitB (nrm neg ds f) = true) : DecOk (nrm neg ds f) := by
  unfold nrm at *
  split at hf
  · rename_i h
    rw [if_pos h]
    exact ⟨by simp [dec0], by simp [dec0], by simp [dec0], by simp [dec0], by simp [dec0], by simp [dec0], fun _ => ⟨rfl, rfl⟩⟩
  · rename_i h
    rw [if_neg h]
    unfold fitB at hf
    dsimp only at hf
    rw [show (rdrop (ds.dropWhile zC)).isEmpty = false by simpa using h] at hf
    simp only [Bool.false_or, Bool.and_eq_true, decide_eq_true_eq] at hf
    have hp := rdrop_prefix (ds.dropWhile zC)
    refine ⟨fun c hc => hd c ((List.dropWhile_suffix zC).subset (hp.subset hc)), fun c hc => ?_, rdrop_last _, hf.1.1, hf.1.2, hf.2, fun e => absurd e h⟩
    dsimp only at hc
    refine drop_head ds c ?_
    obtain ⟨t, ht⟩ := hp
    cases hx : rdrop (ds.dropWhile zC) with
    | nil => exact absurd hx h
    | cons a l => rw [hx] at ht hc; rw [← ht]; simpa using hc

/-! ## the decimal text of a small number -/
theorem decN_dig (n : Nat) : ∀ c ∈ decN n, dgC c = true := by
  induction n using Nat.strongRecOn with
  | _ n ih =>
    intro c hc
    unfold decN at hc
    have key : ∀ k, k < 10 → dgC (UInt8.ofNat (48 + k)) = true := by decide
    split at hc
    · rename_i h
      simp only [List.mem_singleton] at hc
      rw [hc]; exact key n h
    · rcases List.mem_append.1 hc with hc | hc
      · exact ih (n / 10) (by omega) c hc
      · simp only [List.mem_singleton] at hc
        rw [hc]; exact key _ (Nat.mod_lt _ (by omega))
theorem decN_ne (n : Nat) : decN n ≠ [] := by
  unfold decN
  split <;> simp
theorem decN_len (n : Nat) (h : n < 1000) : (decN n).length ≤ 3 := by
  unfold decN
  split
  · simp
  · rw [List.length_append]
    unfold decN
    split
    · simp
    · rw [List.length_append]
      unfold decN
      rw [if_pos (by omega)]
      simp
theorem dv_of (n : Nat) (h : n < 10) : dv (UInt8.ofNat (48 + n)) = n := by
  revert h
  revert n
  decide
theorem clampE_snoc (C : Nat) (l : List UInt8) (c : UInt8) : clampE C (l ++ [c]) = min C (10 * clampE C l + dv c) := by
  unfold clampE
  rw [List.foldl_append]
  rfl
theorem clampE_dec (C : Nat) (n : Nat) (h : n ≤ C) : clampE C (decN n) = n := by
  induction n using Nat.strongRecOn with
  | _ n ih =>
    unfold decN
    split
    · rename_i h1
      have := clampE_snoc C [] (UInt8.ofNat (48 + n))
      rw [List.nil_append] at this
      rw [this, dv_of n h1]
      simp only [clampE, List.foldl_nil]
      omega
    · rw [clampE_snoc, ih (n / 10) (by omega) (by omega), dv_of _ (Nat.mod_lt _ (by omega))]
      omega
theorem dgs_app {l r : List UInt8} (h : ∀ c ∈ l, dgC c = true) (hr : ∀ c, r.head? = some c → dgC c = false) : dgs (l ++ r) = l ∧ rst (l ++ r) = r := by
  unfold dgs rst
  induction l with
  | nil =>
    cases r with
    | nil => exact ⟨rfl, rfl⟩
    | cons c r =>
      have := hr c rfl
      rw [List.nil_append, List.takeWhile_cons, List.dropWhile_cons, if_neg (by simp [this]), if_neg (by simp [this])]
      exact ⟨rfl, rfl⟩
  | cons a l ih =>
    have ha := h a (List.mem_cons_self ..)
    obtain ⟨h1, h2⟩ := ih fun c hc => h c (List.mem_cons_of_mem _ hc)
    rw [List.cons_append, List.takeWhile_cons, List.dropWhile_cons, if_pos ha, if_pos ha, h1, h2]
    exact ⟨rfl, rfl⟩
theorem sgn1_dig {l : List UInt8} (h : ∀ c, l.head? = some c → dgC c = true) : sgn1 l = (false, l) := by
  cases l with
  | nil => rfl
  | cons c r =>
    have hc := h c rfl
    rw [sgn1_cons, if_neg (by rintro rfl; revert hc; decide), if_neg (by rintro rfl; revert hc; decide)]
theorem decI_sgn (f : Int) : sgn1 (decI f) = (decide (f < 0), decN f.natAbs) := by
  unfold decI
  split
  · rename_i h; simp [sgn1, h]
  · rename_i h
    rw [sgn1_dig]
    · simp [h]
    · intro c hc
      exact decN_dig _ c (List.mem_of_mem_head? hc)
theorem decI_len (f : Int) (h0 : -400 ≤ f) (h1 : f ≤ 400) : (decI f).length ≤ 4 := by
  have := decN_len f.natAbs (by omega)
  unfold decI
  split
  · simp; omega
  · omega

/-- the text of a number, read -/
theorem read_txt {d : Dec} (h : DecOk d) {C : Nat} (hC : 400 ≤ C) : ∃ r, readR (txt d) = some r ∧ decOf C r = d := by
  obtain ⟨neg, ds, f⟩ := d
  obtain ⟨hd, hh, hl, hn, f0, f1, hz⟩ := h
  dsimp only at *
  cases ds with
  | nil =>
    obtain ⟨rfl, rfl⟩ := hz rfl
    exact ⟨⟨false, [48], [], false, []⟩, by rfl, by simp [decOf, nrm, rdrop, zC, dec0]⟩
  | cons c cs =>
    have hc := hd c (List.mem_cons_self ..)
    have hcs : ∀ x ∈ cs, dgC x = true := fun x hx => hd x (List.mem_cons_of_mem _ hx)
    have hdi := decI_len f f0 f1
    have hne : dgs (sgn1 (decI f)).2 = decN f.natAbs ∧ rst (sgn1 (decI f)).2 = [] := by
      rw [decI_sgn]
      have := dgs_app (l := decN f.natAbs) (r := []) (decN_dig _) (by simp)
      rw [List.append_nil] at this
      exact this
    have hexp : expR (101 :: decI f) = some (decide (f < 0), decN f.natAbs, []) := by
      rw [expR_cons, if_pos (.inl rfl), hne.1, hne.2, if_neg (decN_ne _), decI_sgn]
    have key : ∀ (t : List UInt8), t = c :: ((if cs = [] then [] else 46 :: cs) ++ 101 :: decI f) → dgs t = [c] ∧ fracR (rst t) = some (cs, 101 :: decI f) := by
      rintro t rfl
      have := dgs_app (l := [c]) (r := (if cs = [] then [] else 46 :: cs) ++ 101 :: decI f) (by simpa using hc) (by
        intro x hx
        split at hx
        · simp at hx; subst hx; decide
        · simp at hx; subst hx; decide)
      rw [List.singleton_append] at this
      refine ⟨this.1, ?_⟩
      rw [this.2]
      by_cases h0 : cs = []
      · subst h0
        rw [if_pos rfl, List.nil_append]
        rw [fracR_cons, if_neg (by decide)]
      · rw [if_neg h0, List.cons_append]
        rw [fracR_cons]
        have h2 := dgs_app (l := cs) (r := 101 :: decI f) hcs (by intro x hx; simp at hx; subst hx; decide)
        rw [if_pos rfl, h2.1, h2.2, if_neg h0]
    obtain ⟨t, ht⟩ : ∃ t, t = c :: ((if cs = [] then [] else 46 :: cs) ++ 101 :: decI f) := ⟨_, rfl⟩
    obtain ⟨k1, k2⟩ := key t ht
    have hlen : t.length ≤ 30 := by
      rw [ht]
      split
      · simp; omega
      · simp at hn ⊢; omega
    have hsg : sgn1 ((if neg then [45] else []) ++ t) = (neg, t) := by
      cases neg
      · simp only [Bool.false_eq_true, if_false, List.nil_append]
        refine sgn1_dig fun x hx => ?_
        rw [ht] at hx
        simp at hx
        subst hx
        exact hc
      · rfl
    refine ⟨⟨neg, [c], cs, decide (f < 0), decN f.natAbs⟩, ?_, ?_⟩
    · have he : txt ⟨neg, c :: cs, f⟩ = (if neg then [45] else []) ++ t := by rw [ht]; rfl
      rw [he]
      unfold readR
      rw [if_neg (by cases neg <;> simp <;> omega), hsg]
      dsimp only
      rw [k1, if_neg (by simp), k2]
      dsimp only
      rw [hexp]
      simp
    · unfold decOf expV nrm
      dsimp only
      rw [clampE_dec C _ (by omega)]
      have hds : [c] ++ cs = c :: cs := rfl
      rw [hds, drop_of_head hh, rdrop_of_last hl, if_neg (by simp)]
      congr 1
      by_cases hf : f < 0
      · simp [hf]; omega
      · simp [hf]; omega

/-- canonical texts -/
theorem canon_iff {C : Nat} (hC : 400 ≤ C) {s : List UInt8} {d : Dec} : canonC C s = some d ↔ DecOk d ∧ txt d = s := by
  constructor
  · intro h
    unfold canonC at h
    split at h
    · cases h
    · rename_i r hr
      split at h
      · rename_i h1
        injection h with h
        subst h
        exact ⟨nrm_ok (readR_some hr) h1.1, h1.2⟩
      · cases h
  · rintro ⟨h, rfl⟩
    obtain ⟨r, h1, h2⟩ := read_txt h hC
    unfold canonC
    rw [h1]
    dsimp only
    rw [h2, if_pos]
    refine ⟨?_, rfl⟩
    unfold fitB
    rw [decide_eq_true h.len, decide_eq_true h.f0, decide_eq_true h.f1]
    simp
/-! ## the comparison -/
def lexC : List UInt8 → List UInt8 → Int
  | [], [] => 0
  | [], _ :: _ => -1
  | _ :: _, [] => 1
  | x :: p, y :: q => if x < y then -1 else if y < x then 1 else lexC p q
def cmpI (a b : Int) : Int := if a < b then -1 else if b < a then 1 else 0
def sgnD (d : Dec) : Int := if d.ds = [] then 0 else if d.neg then -1 else 1
def magD (a b : Dec) : Int := if a.ds = [] ∨ b.ds = [] then cmpI a.ds.length b.ds.length else if a.fst = b.fst then lexC a.ds b.ds else cmpI a.fst b.fst
def cmpD (a b : Dec) : Int := if sgnD a = sgnD b then sgnD a * magD a b else cmpI (sgnD a) (sgnD b)
theorem dg_le {c : UInt8} (h : dgC c = true) : 48 ≤ c.toNat ∧ c.toNat ≤ 57 := by
  unfold dgC at h
  simpa using h
theorem lex_vals (a b : List UInt8) : lexC a b = -1 ∨ lexC a b = 0 ∨ lexC a b = 1 := by
  induction a generalizing b with
  | nil => cases b <;> simp [lexC]
  | cons x p ih =>
    cases b with
    | nil => simp [lexC]
    | cons y q =>
      unfold lexC
      split
      · exact .inl rfl
      · split
        · exact .inr (.inr rfl)
        · exact ih q
section
variable {a b : Dec}
end

end Go.Proofs.YtdlebcijgdkfjaaGreatDoor

/-
  wavestoreref03.digit, digits.
-/
namespace Go.Proofs.YtdlebcijgdkfjaaGreatDoor
open Go.RowKit

theorem dgs_stop {l : List UInt8} {k : Nat} (_ : k ≤ l.length) (ha : (l.take k).all dgC = true) (he : ∀ c, l[k]? = some c → dgC c = false) : dgs l = l.take k ∧ rst l = l.drop k := by
  have h := dgs_app (l := l.take k) (r := l.drop k) (by simpa [List.all_eq_true] using ha) (fun c hc => he c (by simpa [List.head?_drop] using hc))
  rw [List.take_append_drop] at h
  exact h

theorem rdigit_any (c : UInt8) (w : World) : Calls Tryz.prog 225 #[.int .u8 (c.toNat : Int)] w fun e w' => e = .returned (.bool (dgC c)) ∧ w = w' := by
  have hc := byte_lt c
  by_cases h0 : 48 ≤ c.toNat
  · by_cases h1 : c.toNat ≤ 57
    · have HK := hide (show dgC c = true by unfold dgC; simp [h0, h1])
      have T := hide (show decide ((c.toNat : Int) ≤ 57) = true from decide_eq_true (by omega))
      go_enter Tryz.func225, Tryz.ntmps225
      go_wp2_with fail
      go_ret
      exact ⟨by rw [HK.out]; exact congrArg (fun b => Ending.returned (.bool b)) T.out, rfl⟩
    · have HK := hide (show dgC c = false by unfold dgC; simp [h0, h1])
      have T := hide (show decide ((c.toNat : Int) ≤ 57) = false from decide_eq_false (by omega))
      go_enter Tryz.func225, Tryz.ntmps225
      go_wp2_with fail
      go_ret
      exact ⟨by rw [HK.out]; exact congrArg (fun b => Ending.returned (.bool b)) T.out, rfl⟩
  · have HK := hide (show dgC c = false by unfold dgC; simp [h0])
    go_enter Tryz.func225, Tryz.ntmps225
    go_wp2_with fail
    go_ret
    exact ⟨by rw [HK.out]; rfl, rfl⟩

def DgRel (l : List UInt8) (i : Value) : Prop := ∃ k : Nat, k ≤ l.length ∧ i = .int .i64 k ∧ (l.take k).all dgC = true

set_option maxRecDepth 100000 in
theorem rdigits_any (s : ByteArray) (at' : Nat) (w : World) (hs : s.size ≤ 1000) (ha : at' ≤ s.size) : Calls Tryz.prog 200 #[.string s, .int .i64 (at' : Int)] w fun e w' => e = .returned (.int .i64 ((dgs (s.data.toList.drop at')).length : Int)) ∧ w = w' := by
  have HL := hide (show (s.data.toList.drop at').length = s.size - at' by simp)
  go_enter Tryz.func200, Tryz.ntmps200
  go_wp2_with fail
  go_loop [5] (fun i => DgRel (s.data.toList.drop at') i) (fun i => s.size - (intOf i).toNat)
  case atStart => exact ⟨0, Nat.zero_le _, rfl, rfl⟩
  case round =>
    obtain ⟨k, hk, rfl, hp⟩ := hrel
    rw [HL.out] at hk
    have HP := hide hp
    clear hp
    by_cases hlt : at' + k < s.size
    · have hx : (s.data.toList.drop at')[k]? = some s[at' + k] := by
        rw [List.getElem?_drop, List.getElem?_eq_getElem (by simpa using hlt)]; rfl
      have HX := hide hx
      clear hx
      have HT := hide (show (((s.data.toList.drop at').take (k + 1)).all dgC) = (((s.data.toList.drop at').take k).all dgC && dgC s[at' + k]) by
        rw [List.take_add_one, HX.out, List.all_append]; simp)
      cases hd : dgC s[at' + k] with
      | true =>
        have HD := hide hd
        clear hd
        go_wp2_with fail
        refine (rdigit_any _ _).mono ?_
        rw [HD.out]
        rintro e w1 ⟨rfl, rfl⟩
        go_wp2_with fail
        go_round
        case rel => exact ⟨k + 1, by rw [HL.out]; omega, by go_num, by rw [HT.out, HP.out, HD.out]; rfl⟩
        case measure => simp [intOf]; omega
      | false =>
        have HS := hide (dgs_stop (l := s.data.toList.drop at') (k := k) (by rw [HL.out]; omega) HP.out (by rw [HX.out]; rintro c ⟨⟩; exact hd)).1
        have HD := hide hd
        clear hd
        go_wp2_with fail
        refine (rdigit_any _ _).mono ?_
        rw [HD.out]
        rintro e w1 ⟨rfl, rfl⟩
        go_wp2_with fail
        go_ret
        exact ⟨by rw [HS.out, List.length_take, HL.out, Nat.min_eq_left (by omega)]; rfl, rfl⟩
    · have hke : k = s.size - at' := by omega
      subst hke
      have HS := hide (dgs_stop (l := s.data.toList.drop at') (k := s.size - at') (by rw [HL.out]; omega) HP.out (by rw [List.getElem?_eq_none (by rw [HL.out]; omega)]; rintro c ⟨⟩)).1
      go_wp2_with fail
      go_ret
      exact ⟨by rw [HS.out, List.length_take, HL.out, Nat.min_eq_left (by omega)]; rfl, rfl⟩

end Go.Proofs.YtdlebcijgdkfjaaGreatDoor
