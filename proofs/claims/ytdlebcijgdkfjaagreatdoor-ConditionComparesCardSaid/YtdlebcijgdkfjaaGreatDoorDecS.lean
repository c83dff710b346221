/-
  Exact decimals as texts: the form of a text, its parts, canonical texts, and the comparison; plain definitions and facts, no program.
-/
namespace Go.Proofs.YtdlebcijgdkfjaaGreatDoor

def dgC (c : UInt8) : Bool := decide (48 ≤ c.toNat) && decide (c.toNat ≤ 57)
def zC (c : UInt8) : Bool := c == 48
def dgs (l : List UInt8) : List UInt8 := l.takeWhile dgC
def rst (l : List UInt8) : List UInt8 := l.dropWhile dgC
/-- a sign at the front -/
def sgn1 : List UInt8 → Bool × List UInt8
  | [] => (false, [])
  | c :: r => if c = 45 then (true, r) else if c = 43 then (false, r) else (false, c :: r)
/-- what a text says: sign, digits ahead of and behind the point, sign and digits of the exponent -/
structure Raw where
  neg : Bool
  whole : List UInt8
  frac : List UInt8
  down : Bool
  expo : List UInt8
def fracR : List UInt8 → Option (List UInt8 × List UInt8)
  | [] => some ([], [])
  | c :: r => if c = 46 then (if dgs r = [] then none else some (dgs r, rst r)) else some ([], c :: r)
def expR : List UInt8 → Option (Bool × List UInt8 × List UInt8)
  | [] => some (false, [], [])
  | c :: r => if c = 101 ∨ c = 69 then (if dgs (sgn1 r).2 = [] then none else some ((sgn1 r).1, dgs (sgn1 r).2, rst (sgn1 r).2)) else some (false, [], c :: r)
theorem sgn1_cons (c : UInt8) (r : List UInt8) : sgn1 (c :: r) = if c = 45 then (true, r) else if c = 43 then (false, r) else (false, c :: r) := rfl
theorem fracR_cons (c : UInt8) (r : List UInt8) : fracR (c :: r) = if c = 46 then (if dgs r = [] then none else some (dgs r, rst r)) else some ([], c :: r) := rfl
theorem expR_cons (c : UInt8) (r : List UInt8) : expR (c :: r) = if c = 101 ∨ c = 69 then (if dgs (sgn1 r).2 = [] then none else some ((sgn1 r).1, dgs (sgn1 r).2, rst (sgn1 r).2)) else some (false, [], c :: r) := rfl
def readR (s : List UInt8) : Option Raw :=
  if 64 < s.length then none
  else if dgs (sgn1 s).2 = [] then none
  else match fracR (rst (sgn1 s).2) with
    | none => none
    | some (fs, l3) => match expR l3 with
      | none => none
      | some (dn, es, l4) => if l4 = [] then some ⟨(sgn1 s).1, dgs (sgn1 s).2, fs, dn, es⟩ else none
def dv (c : UInt8) : Nat := c.toNat - 48
def clampE (C : Nat) (es : List UInt8) : Nat := es.foldl (fun e c => min C (10 * e + dv c)) 0
def expV (C : Nat) (r : Raw) : Int := if r.down then -(clampE C r.expo : Int) else (clampE C r.expo : Int)

/-- a number: its sign, its digits without zeros at the ends, the exponent of the first one -/
structure Dec where
  neg : Bool
  ds : List UInt8
  fst : Int
def dec0 : Dec := ⟨false, [], 0⟩
def rdrop (l : List UInt8) : List UInt8 := (l.reverse.dropWhile zC).reverse
def nrm (neg : Bool) (ds : List UInt8) (f : Int) : Dec :=
  if rdrop (ds.dropWhile zC) = [] then dec0 else ⟨neg, rdrop (ds.dropWhile zC), f - ((ds.length : Int) - (ds.dropWhile zC).length)⟩
def decOf (C : Nat) (r : Raw) : Dec := nrm r.neg (r.whole ++ r.frac) ((r.whole.length : Int) - 1 + expV C r)

def decN (n : Nat) : List UInt8 := if n < 10 then [UInt8.ofNat (48 + n)] else decN (n / 10) ++ [UInt8.ofNat (48 + n % 10)]
termination_by n
def decI (f : Int) : List UInt8 := if f < 0 then 45 :: decN f.natAbs else decN f.natAbs
def txt (d : Dec) : List UInt8 := match d.ds with
  | [] => [48]
  | c :: cs => (if d.neg then [45] else []) ++ (c :: ((if cs = [] then [] else 46 :: cs) ++ 101 :: decI d.fst))
/-- a number that has a text -/
def fitB (d : Dec) : Bool := d.ds.isEmpty || (decide (d.ds.length ≤ 17) && decide (-400 ≤ d.fst) && decide (d.fst ≤ 400))
def canonC (C : Nat) (s : List UInt8) : Option Dec := match readR s with
  | none => none
  | some r => if fitB (decOf C r) = true ∧ txt (decOf C r) = s then some (decOf C r) else none
/-- a number in its form -/
structure DecOk (d : Dec) : Prop where
  digs : ∀ c ∈ d.ds, dgC c = true
  head : ∀ c, d.ds.head? = some c → c ≠ 48
  last : ∀ c, d.ds.getLast? = some c → c ≠ 48
  len : d.ds.length ≤ 17
  f0 : -400 ≤ d.fst
  f1 : d.fst ≤ 400
  zero : d.ds = [] → d.neg = false ∧ d.fst = 0

theorem rdrop_snoc (l : List UInt8) (c : UInt8) : rdrop (l ++ [c]) = if c = 48 then rdrop l else l ++ [c] := by
  unfold rdrop
  rw [List.reverse_append]
  simp only [List.reverse_cons, List.reverse_nil, List.nil_append, List.singleton_append, List.dropWhile_cons]
  by_cases h : c = 48
  · simp [zC, h]
  · have : zC c = false := by simp [zC, h]
    rw [this, if_neg h]
    simp
theorem rdrop_last (l : List UInt8) : ∀ c, (rdrop l).getLast? = some c → c ≠ 48 := by
  intro c h
  unfold rdrop at h
  rw [List.getLast?_reverse] at h
  rintro rfl
  have h1 := List.head?_dropWhile_not zC l.reverse
  rw [h] at h1
  exact absurd h1 (by decide)
theorem rdrop_prefix (l : List UInt8) : rdrop l <+: l := by
  unfold rdrop
  have := List.dropWhile_suffix (l := l.reverse) zC
  rw [← List.reverse_prefix] at this
  simpa using this
theorem rdrop_of_last {l : List UInt8} (h : ∀ c, l.getLast? = some c → c ≠ 48) : rdrop l = l := by
  unfold rdrop
  have : l.reverse.dropWhile zC = l.reverse := by
    cases hr : l.reverse with
    | nil => rfl
    | cons c cs =>
      have h1 := h c (by rw [← List.head?_reverse, hr]; rfl)
      rw [List.dropWhile_cons, if_neg (by simp [zC, h1])]
  rw [this, List.reverse_reverse]
theorem drop_head (l : List UInt8) : ∀ c, (l.dropWhile zC).head? = some c → c ≠ 48 := by
  intro c h
  rintro rfl
  have h1 := List.head?_dropWhile_not zC l
  rw [h] at h1
  exact absurd h1 (by decide)
theorem drop_of_head {l : List UInt8} (h : ∀ c, l.head? = some c → c ≠ 48) : l.dropWhile zC = l := by
  cases l with
  | nil => rfl
  | cons c cs => rw [List.dropWhile_cons, if_neg (by simp [zC, h c rfl])]

theorem dgs_all (l : List UInt8) : ∀ c ∈ dgs l, dgC c = true := by
  unfold dgs
  induction l with
  | nil => intro c h; cases h
  | cons a l ih =>
    intro c h
    rw [List.takeWhile_cons] at h
    split at h
    · rcases List.mem_cons.1 h with rfl | h
      · assumption
      · exact ih c h
    · cases h
theorem fracR_all {l fs l3 : List UInt8} (h : fracR l = some (fs, l3)) : ∀ c ∈ fs, dgC c = true := by
  unfold fracR at h
  split at h
  · injection h with h; injection h with h1 h2; subst h1; intro c hc; cases hc
  · split at h
    · split at h
      · cases h
      · injection h with h; injection h with h1 h2; rw [← h1]; exact dgs_all _
    · injection h with h; injection h with h1 h2; subst h1; intro c hc; cases hc
theorem readR_some {s : List UInt8} {r : Raw} (h : readR s = some r) : ∀ c ∈ r.whole ++ r.frac, dgC c = true := by
  unfold readR at h
  split at h
  · cases h
  · split at h
    · cases h
    · split at h
      · cases h
      · rename_i fs l3 hf
        split at h
        · cases h
        · split at h
          · injection h with h
            subst h
            intro c hc
            rcases List.mem_append.1 hc with hc | hc
            · exact dgs_all _ c hc
            · exact fracR_all hf c hc
          · cases h

theorem nrm_ok {neg : Bool} {ds : List UInt8} {f : Int} (hd : ∀ c ∈ ds, dgC c = true) (hf : fitB (nrm neg ds f) = true) : DecOk (nrm neg ds f) := by
  unfold nrm at *
  split at hf
  · rename_i h
    rw [if_pos h]
    exact ⟨by simp [dec0], by simp [dec0], by simp [dec0], by simp [dec0], by simp [dec0], by simp [dec0], fun _ => ⟨rfl, rfl⟩⟩
  · rename_i h
    rw [if_neg h]
    unfold fitB at hf
    dsimp only at hf
    rw [show (rdrop (ds.dropWhile zC)).isEmpty = false by simpa using h] at hf
    simp only [Bool.false_or, Bool.and_eq_true, decide_eq_true_eq] at hf
    have hp := rdrop_prefix (ds.dropWhile zC)
    refine ⟨fun c hc => hd c ((List.dropWhile_suffix zC).subset (hp.subset hc)), fun c hc => ?_, rdrop_last _, hf.1.1, hf.1.2, hf.2, fun e => absurd e h⟩
    dsimp only at hc
    refine drop_head ds c ?_
    obtain ⟨t, ht⟩ := hp
    cases hx : rdrop (ds.dropWhile zC) with
    | nil => exact absurd hx h
    | cons a l => rw [hx] at ht hc; rw [← ht]; simpa using hc

/-! ## the decimal text of a small number -/
theorem decN_dig (n : Nat) : ∀ c ∈ decN n, dgC c = true := by
  induction n using Nat.strongRecOn with
  | _ n ih =>
    intro c hc
    unfold decN at hc
    have key : ∀ k, k < 10 → dgC (UInt8.ofNat (48 + k)) = true := by decide
    split at hc
    · rename_i h
      simp only [List.mem_singleton] at hc
      rw [hc]; exact key n h
    · rcases List.mem_append.1 hc with hc | hc
      · exact ih (n / 10) (by omega) c hc
      · simp only [List.mem_singleton] at hc
        rw [hc]; exact key _ (Nat.mod_lt _ (by omega))
theorem decN_ne (n : Nat) : decN n ≠ [] := by
  unfold decN
  split <;> simp
theorem decN_len (n : Nat) (h : n < 1000) : (decN n).length ≤ 3 := by
  unfold decN
  split
  · simp
  · rw [List.length_append]
    unfold decN
    split
    · simp
    · rw [List.length_append]
      unfold decN
      rw [if_pos (by omega)]
      simp
theorem dv_of (n : Nat) (h : n < 10) : dv (UInt8.ofNat (48 + n)) = n := by
  revert h
  revert n
  decide
theorem clampE_snoc (C : Nat) (l : List UInt8) (c : UInt8) : clampE C (l ++ [c]) = min C (10 * clampE C l + dv c) := by
  unfold clampE
  rw [List.foldl_append]
  rfl
theorem clampE_dec (C : Nat) (n : Nat) (h : n ≤ C) : clampE C (decN n) = n := by
  induction n using Nat.strongRecOn with
  | _ n ih =>
    unfold decN
    split
    · rename_i h1
      have := clampE_snoc C [] (UInt8.ofNat (48 + n))
      rw [List.nil_append] at this
      rw [this, dv_of n h1]
      simp only [clampE, List.foldl_nil]
      omega
    · rw [clampE_snoc, ih (n / 10) (by omega) (by omega), dv_of _ (Nat.mod_lt _ (by omega))]
      omega
theorem dgs_app {l r : List UInt8} (h : ∀ c ∈ l, dgC c = true) (hr : ∀ c, r.head? = some c → dgC c = false) : dgs (l ++ r) = l ∧ rst (l ++ r) = r := by
  unfold dgs rst
  induction l with
  | nil =>
    cases r with
    | nil => exact ⟨rfl, rfl⟩
    | cons c r =>
      have := hr c rfl
      rw [List.nil_append, List.takeWhile_cons, List.dropWhile_cons, if_neg (by simp [this]), if_neg (by simp [this])]
      exact ⟨rfl, rfl⟩
  | cons a l ih =>
    have ha := h a (List.mem_cons_self ..)
    obtain ⟨h1, h2⟩ := ih fun c hc => h c (List.mem_cons_of_mem _ hc)
    rw [List.cons_append, List.takeWhile_cons, List.dropWhile_cons, if_pos ha, if_pos ha, h1, h2]
    exact ⟨rfl, rfl⟩
theorem sgn1_dig {l : List UInt8} (h : ∀ c, l.head? = some c → dgC c = true) : sgn1 l = (false, l) := by
  cases l with
  | nil => rfl
  | cons c r =>
    have hc := h c rfl
    rw [sgn1_cons, if_neg (by rintro rfl; revert hc; decide), if_neg (by rintro rfl; revert hc; decide)]
theorem decI_sgn (f : Int) : sgn1 (decI f) = (decide (f < 0), decN f.natAbs) := by
  unfold decI
  split
  · rename_i h; simp [sgn1, h]
  · rename_i h
    rw [sgn1_dig]
    · simp [h]
    · intro c hc
      exact decN_dig _ c (List.mem_of_mem_head? hc)
theorem decI_len (f : Int) (h0 : -400 ≤ f) (h1 : f ≤ 400) : (decI f).length ≤ 4 := by
  have := decN_len f.natAbs (by omega)
  unfold decI
  split
  · simp; omega
  · omega

/-- the text of a number, read -/
theorem read_txt {d : Dec} (h : DecOk d) {C : Nat} (hC : 400 ≤ C) : ∃ r, readR (txt d) = some r ∧ decOf C r = d := by
  obtain ⟨neg, ds, f⟩ := d
  obtain ⟨hd, hh, hl, hn, f0, f1, hz⟩ := h
  dsimp only at *
  cases ds with
  | nil =>
    obtain ⟨rfl, rfl⟩ := hz rfl
    exact ⟨⟨false, [48], [], false, []⟩, by rfl, by simp [decOf, nrm, rdrop, zC, dec0]⟩
  | cons c cs =>
    have hc := hd c (List.mem_cons_self ..)
    have hcs : ∀ x ∈ cs, dgC x = true := fun x hx => hd x (List.mem_cons_of_mem _ hx)
    have hdi := decI_len f f0 f1
    have hne : dgs (sgn1 (decI f)).2 = decN f.natAbs ∧ rst (sgn1 (decI f)).2 = [] := by
      rw [decI_sgn]
      have := dgs_app (l := decN f.natAbs) (r := []) (decN_dig _) (by simp)
      rw [List.append_nil] at this
      exact this
    have hexp : expR (101 :: decI f) = some (decide (f < 0), decN f.natAbs, []) := by
      rw [expR_cons, if_pos (.inl rfl), hne.1, hne.2, if_neg (decN_ne _), decI_sgn]
    have key : ∀ (t : List UInt8), t = c :: ((if cs = [] then [] else 46 :: cs) ++ 101 :: decI f) → dgs t = [c] ∧ fracR (rst t) = some (cs, 101 :: decI f) := by
      rintro t rfl
      have := dgs_app (l := [c]) (r := (if cs = [] then [] else 46 :: cs) ++ 101 :: decI f) (by simpa using hc) (by
        intro x hx
        split at hx
        · simp at hx; subst hx; decide
        · simp at hx; subst hx; decide)
      rw [List.singleton_append] at this
      refine ⟨this.1, ?_⟩
      rw [this.2]
      by_cases h0 : cs = []
      · subst h0
        rw [if_pos rfl, List.nil_append]
        rw [fracR_cons, if_neg (by decide)]
      · rw [if_neg h0, List.cons_append]
        rw [fracR_cons]
        have h2 := dgs_app (l := cs) (r := 101 :: decI f) hcs (by intro x hx; simp at hx; subst hx; decide)
        rw [if_pos rfl, h2.1, h2.2, if_neg h0]
    obtain ⟨t, ht⟩ : ∃ t, t = c :: ((if cs = [] then [] else 46 :: cs) ++ 101 :: decI f) := ⟨_, rfl⟩
    obtain ⟨k1, k2⟩ := key t ht
    have hlen : t.length ≤ 30 := by
      rw [ht]
      split
      · simp; omega
      · simp at hn ⊢; omega
    have hsg : sgn1 ((if neg then [45] else []) ++ t) = (neg, t) := by
      cases neg
      · simp only [Bool.false_eq_true, if_false, List.nil_append]
        refine sgn1_dig fun x hx => ?_
        rw [ht] at hx
        simp at hx
        subst hx
        exact hc
      · rfl
    refine ⟨⟨neg, [c], cs, decide (f < 0), decN f.natAbs⟩, ?_, ?_⟩
    · have he : txt ⟨neg, c :: cs, f⟩ = (if neg then [45] else []) ++ t := by rw [ht]; rfl
      rw [he]
      unfold readR
      rw [if_neg (by cases neg <;> simp <;> omega), hsg]
      dsimp only
      rw [k1, if_neg (by simp), k2]
      dsimp only
      rw [hexp]
      simp
    · unfold decOf expV nrm
      dsimp only
      rw [clampE_dec C _ (by omega)]
      have hds : [c] ++ cs = c :: cs := rfl
      rw [hds, drop_of_head hh, rdrop_of_last hl, if_neg (by simp)]
      congr 1
      by_cases hf : f < 0
      · simp [hf]; omega
      · simp [hf]; omega

/-- canonical texts -/
theorem canon_iff {C : Nat} (hC : 400 ≤ C) {s : List UInt8} {d : Dec} : canonC C s = some d ↔ DecOk d ∧ txt d = s := by
  constructor
  · intro h
    unfold canonC at h
    split at h
    · cases h
    · rename_i r hr
      split at h
      · rename_i h1
        injection h with h
        subst h
        exact ⟨nrm_ok (readR_some hr) h1.1, h1.2⟩
      · cases h
  · rintro ⟨h, rfl⟩
    obtain ⟨r, h1, h2⟩ := read_txt h hC
    unfold canonC
    rw [h1]
    dsimp only
    rw [h2, if_pos]
    refine ⟨?_, rfl⟩
    unfold fitB
    rw [decide_eq_true h.len, decide_eq_true h.f0, decide_eq_true h.f1]
    simp
theorem canon_same {C D : Nat} (hC : 400 ≤ C) (hD : 400 ≤ D) (s : List UInt8) : canonC C s = canonC D s := by
  refine Option.ext fun d => ?_
  rw [canon_iff hC, canon_iff hD]
theorem canon_inj {C : Nat} (hC : 400 ≤ C) {s t : List UInt8} {d : Dec} (hs : canonC C s = some d) (ht : canonC C t = some d) : s = t :=
  ((canon_iff hC).1 hs).2.symm.trans ((canon_iff hC).1 ht).2

/-! ## the comparison -/
def lexC : List UInt8 → List UInt8 → Int
  | [], [] => 0
  | [], _ :: _ => -1
  | _ :: _, [] => 1
  | x :: p, y :: q => if x < y then -1 else if y < x then 1 else lexC p q
def cmpI (a b : Int) : Int := if a < b then -1 else if b < a then 1 else 0
def sgnD (d : Dec) : Int := if d.ds = [] then 0 else if d.neg then -1 else 1
def magD (a b : Dec) : Int := if a.ds = [] ∨ b.ds = [] then cmpI a.ds.length b.ds.length else if a.fst = b.fst then lexC a.ds b.ds else cmpI a.fst b.fst
def cmpD (a b : Dec) : Int := if sgnD a = sgnD b then sgnD a * magD a b else cmpI (sgnD a) (sgnD b)
/-- the reference: digits of integers, so many behind the point -/
def placesD (a b : Dec) : Int := max 0 (max ((a.ds.length : Int) - 1 - a.fst) ((b.ds.length : Int) - 1 - b.fst))
def fixD (d : Dec) (n : Int) : List UInt8 := d.ds ++ List.replicate (n - ((d.ds.length : Int) - 1 - d.fst)).toNat 48
def padD (l : List UInt8) (n : Nat) : List UInt8 := List.replicate (n - l.length) 48 ++ l
def addQ : List UInt8 → List UInt8 → List UInt8 × Nat
  | x :: xs, y :: ys => (UInt8.ofNat (48 + (dv x + dv y + (addQ xs ys).2) % 10) :: (addQ xs ys).1, (dv x + dv y + (addQ xs ys).2) / 10)
  | _, _ => ([], 0)
def subQ : List UInt8 → List UInt8 → List UInt8 × Nat
  | x :: xs, y :: ys => (UInt8.ofNat (48 + (dv x + 10 - dv y - (subQ xs ys).2) % 10) :: (subQ xs ys).1, 1 - (dv x + 10 - dv y - (subQ xs ys).2) / 10)
  | _, _ => ([], 0)
def negD (d : Dec) : Dec := ⟨!d.neg && !d.ds.isEmpty, d.ds, d.fst⟩
/-- the sign of the reference's sum -/
def sumSgn (a b : Dec) : Int :=
  let n := placesD a b
  let x := fixD a n
  let y := fixD b n
  let z := max (max x.length y.length) 1
  let x := padD x z
  let y := padD y z
  if a.neg = b.neg then (if (addQ x y).2 = 0 ∧ (addQ x y).1.all zC = true then 0 else if a.neg then -1 else 1)
  else if lexC x y = -1 then (if (subQ y x).1.all zC = true then 0 else if b.neg then -1 else 1)
  else (if (subQ x y).1.all zC = true then 0 else if a.neg then -1 else 1)

theorem dg_le {c : UInt8} (h : dgC c = true) : 48 ≤ c.toNat ∧ c.toNat ≤ 57 := by
  unfold dgC at h
  simpa using h
theorem dv_le {c : UInt8} (h : dgC c = true) : dv c ≤ 9 := by have := dg_le h; unfold dv; omega
theorem dv_zero {c : UInt8} (h : dgC c = true) : dv c = 0 ↔ c = 48 := by
  have := dg_le h
  unfold dv
  constructor
  · intro h1
    exact UInt8.toNat_inj.1 (by show c.toNat = 48; omega)
  · rintro rfl; rfl
theorem dv_inj {a b : UInt8} (ha : dgC a = true) (hb : dgC b = true) : dv a = dv b ↔ a = b := by
  have := dg_le ha
  have := dg_le hb
  unfold dv
  constructor
  · intro h1
    exact UInt8.toNat_inj.1 (by omega)
  · rintro rfl; rfl
theorem of_zero {n : Nat} (h : n < 10) : UInt8.ofNat (48 + n) = 48 ↔ n = 0 := by
  revert h
  revert n
  decide
theorem addQ_carry : ∀ (xs ys : List UInt8), (∀ c ∈ xs, dgC c = true) → (∀ c ∈ ys, dgC c = true) → (addQ xs ys).2 ≤ 1
  | [], _, _, _ => by simp [addQ]
  | _ :: _, [], _, _ => by simp [addQ]
  | x :: xs, y :: ys, hx, hy => by
    have := addQ_carry xs ys (fun c hc => hx c (List.mem_cons_of_mem _ hc)) fun c hc => hy c (List.mem_cons_of_mem _ hc)
    have := dv_le (hx x (List.mem_cons_self ..))
    have := dv_le (hy y (List.mem_cons_self ..))
    simp only [addQ]
    omega
theorem add_zero : ∀ (xs ys : List UInt8), xs.length = ys.length → (∀ c ∈ xs, dgC c = true) → (∀ c ∈ ys, dgC c = true) → (((addQ xs ys).2 = 0 ∧ (addQ xs ys).1.all zC = true) ↔ (xs.all zC = true ∧ ys.all zC = true))
  | [], [], _, _, _ => by simp [addQ]
  | [], _ :: _, h, _, _ => by simp at h
  | _ :: _, [], h, _, _ => by simp at h
  | x :: xs, y :: ys, h, hx, hy => by
    have ih := add_zero xs ys (by simpa using h) (fun c hc => hx c (List.mem_cons_of_mem _ hc)) fun c hc => hy c (List.mem_cons_of_mem _ hc)
    have hc := addQ_carry xs ys (fun c hc => hx c (List.mem_cons_of_mem _ hc)) fun c hc => hy c (List.mem_cons_of_mem _ hc)
    have h1 := dv_zero (hx x (List.mem_cons_self ..))
    have h2 := dv_zero (hy y (List.mem_cons_self ..))
    have l1 := dv_le (hx x (List.mem_cons_self ..))
    have l2 := dv_le (hy y (List.mem_cons_self ..))
    have h3 := of_zero (n := (dv x + dv y + (addQ xs ys).2) % 10) (Nat.mod_lt _ (by omega))
    simp only [addQ, List.all_cons, Bool.and_eq_true, zC, beq_iff_eq] at ih ⊢
    rw [h3, ← h1, ← h2]
    constructor
    · rintro ⟨a1, a2, a3⟩
      have : (addQ xs ys).2 = 0 := by omega
      obtain ⟨b1, b2⟩ := ih.1 ⟨this, a3⟩
      exact ⟨⟨by omega, b1⟩, by omega, b2⟩
    · rintro ⟨⟨a1, a2⟩, a3, a4⟩
      obtain ⟨b1, b2⟩ := ih.2 ⟨a2, a4⟩
      exact ⟨by omega, by omega, b2⟩
theorem subQ_carry : ∀ (xs ys : List UInt8), (subQ xs ys).2 ≤ 1
  | [], _ => by simp [subQ]
  | _ :: _, [] => by simp [subQ]
  | x :: xs, y :: ys => by simp only [subQ]; omega
theorem sub_zero : ∀ (xs ys : List UInt8), xs.length = ys.length → (∀ c ∈ xs, dgC c = true) → (∀ c ∈ ys, dgC c = true) → ((subQ xs ys).1.all zC = true ↔ xs = ys) ∧ (xs = ys → (subQ xs ys).2 = 0)
  | [], [], _, _, _ => by simp [subQ]
  | [], _ :: _, h, _, _ => by simp at h
  | _ :: _, [], h, _, _ => by simp at h
  | x :: xs, y :: ys, h, hx, hy => by
    obtain ⟨ih, ih2⟩ := sub_zero xs ys (by simpa using h) (fun c hc => hx c (List.mem_cons_of_mem _ hc)) fun c hc => hy c (List.mem_cons_of_mem _ hc)
    have hxy := dv_inj (hx x (List.mem_cons_self ..)) (hy y (List.mem_cons_self ..))
    have l1 := dv_le (hx x (List.mem_cons_self ..))
    have l2 := dv_le (hy y (List.mem_cons_self ..))
    have h3 := of_zero (n := (dv x + 10 - dv y - (subQ xs ys).2) % 10) (Nat.mod_lt _ (by omega))
    simp only [subQ, List.all_cons, Bool.and_eq_true, zC, beq_iff_eq, List.cons.injEq] at ih ⊢
    rw [h3, ih, ← hxy]
    refine ⟨⟨?_, ?_⟩, ?_⟩
    · rintro ⟨a1, a2⟩
      have := ih2 a2
      exact ⟨by omega, a2⟩
    · rintro ⟨a1, a2⟩
      have := ih2 a2
      exact ⟨by omega, a2⟩
    · rintro ⟨a1, a2⟩
      have := ih2 a2
      omega

theorem lex_refl (l : List UInt8) : lexC l l = 0 := by
  induction l with
  | nil => rfl
  | cons c l ih => simp [lexC, ih, UInt8.lt_irrefl]
theorem lex_zero : ∀ (a b : List UInt8), lexC a b = 0 → a = b
  | [], [], _ => rfl
  | [], _ :: _, h => by simp [lexC] at h
  | _ :: _, [], h => by simp [lexC] at h
  | x :: p, y :: q, h => by
    unfold lexC at h
    split at h
    · omega
    · split at h
      · omega
      · rename_i h1 h2
        rw [UInt8.lt_iff_toNat_lt] at h1 h2
        have : x = y := UInt8.toNat_inj.1 (by omega)
        rw [this, lex_zero p q h]
theorem lex_swap : ∀ (a b : List UInt8), lexC b a = -lexC a b
  | [], [] => rfl
  | [], _ :: _ => rfl
  | _ :: _, [] => rfl
  | x :: p, y :: q => by
    have ih := lex_swap p q
    unfold lexC
    by_cases h1 : x < y
    · have h2 : ¬ y < x := by rw [UInt8.lt_iff_toNat_lt] at *; omega
      rw [if_neg h2, if_pos h1, if_pos h1]
      rfl
    · rw [if_neg h1]
      by_cases h2 : y < x
      · rw [if_pos h2, if_pos h2, if_neg h1]
      · rw [if_neg h2, if_neg h2, if_neg h1, ih]
theorem lex_vals (a b : List UInt8) : lexC a b = -1 ∨ lexC a b = 0 ∨ lexC a b = 1 := by
  induction a generalizing b with
  | nil => cases b <;> simp [lexC]
  | cons x p ih =>
    cases b with
    | nil => simp [lexC]
    | cons y q =>
      unfold lexC
      split
      · exact .inl rfl
      · split
        · exact .inr (.inr rfl)
        · exact ih q
theorem lex_app (c a b : List UInt8) : lexC (c ++ a) (c ++ b) = lexC a b := by
  induction c with
  | nil => rfl
  | cons x c ih => simp [lexC, UInt8.lt_irrefl, ih]
/-- zeros ahead of a list, against one that begins with another digit -/
theorem lex_lead {p q : Nat} {x y : List UInt8} (h : q < p) (hy : ∃ c r, y = c :: r ∧ dgC c = true ∧ c ≠ 48) : lexC (List.replicate p 48 ++ x) (List.replicate q 48 ++ y) = -1 := by
  obtain ⟨k, rfl⟩ : ∃ k, p = q + (k + 1) := ⟨p - q - 1, by omega⟩
  rw [List.replicate_append_replicate.symm, List.append_assoc, lex_app]
  obtain ⟨c, r, rfl, h1, h2⟩ := hy
  rw [List.replicate_succ, List.cons_append]
  unfold lexC
  rw [if_pos]
  have := dg_le h1
  rw [UInt8.lt_iff_toNat_lt]
  have : c.toNat ≠ 48 := fun e => h2 (UInt8.toNat_inj.1 e)
  show 48 < c.toNat
  omega
/-- zeros against a list with another digit -/
theorem lex_zeros : ∀ (k : Nat) (b : List UInt8), (∀ c ∈ b, dgC c = true) → (∃ c ∈ b, c ≠ 48) → ∀ m, b.length + m = k → lexC (List.replicate k 48) (b ++ List.replicate m 48) = -1
  | 0, b, _, h, m, hk => by
    have : b = [] := List.eq_nil_of_length_eq_zero (by omega)
    subst this
    obtain ⟨c, hc, _⟩ := h
    cases hc
  | k + 1, [], _, h, m, hk => by obtain ⟨c, hc, _⟩ := h; cases hc
  | k + 1, y :: b, hd, h, m, hk => by
    rw [List.replicate_succ, List.cons_append]
    unfold lexC
    have h1 := dg_le (hd y (List.mem_cons_self ..))
    by_cases hy : y = 48
    · subst hy
      rw [if_neg (UInt8.lt_irrefl _), if_neg (UInt8.lt_irrefl _)]
      refine lex_zeros k b (fun c hc => hd c (List.mem_cons_of_mem _ hc)) ?_ m (by simp at hk; omega)
      obtain ⟨c, hc, h2⟩ := h
      rcases List.mem_cons.1 hc with rfl | hc
      · exact absurd rfl h2
      · exact ⟨c, hc, h2⟩
    · rw [if_pos]
      rw [UInt8.lt_iff_toNat_lt]
      have : y.toNat ≠ 48 := fun e => hy (UInt8.toNat_inj.1 e)
      show 48 < y.toNat
      omega
theorem last_tail {x : UInt8} {p : List UInt8} (h : ∀ c, (x :: p).getLast? = some c → c ≠ 48) : ∀ c, p.getLast? = some c → c ≠ 48 := fun c hc => h c (by
  cases p with
  | nil => simp at hc
  | cons y p => rw [List.getLast?_cons_cons]; exact hc)
theorem last_some {b : List UInt8} (hb : b ≠ []) (h : ∀ c, b.getLast? = some c → c ≠ 48) : ∃ c ∈ b, c ≠ 48 :=
  ⟨b.getLast hb, List.getLast_mem hb, h _ (List.getLast?_eq_some_getLast hb)⟩
/-- zeros behind lists that end with another digit -/
theorem lex_trail : ∀ (a b : List UInt8), (∀ c ∈ a, dgC c = true) → (∀ c ∈ b, dgC c = true) → (∀ c, a.getLast? = some c → c ≠ 48) → (∀ c, b.getLast? = some c → c ≠ 48) → ∀ k m, a.length + k = b.length + m →
    lexC (a ++ List.replicate k 48) (b ++ List.replicate m 48) = lexC a b
  | [], [], _, _, _, _, k, m, h => by
    have : k = m := by simpa using h
    subst this
    rw [List.nil_append, lex_refl]
    rfl
  | [], y :: b, _, hb, _, lb, k, m, h => by
    rw [List.nil_append, lex_zeros k (y :: b) hb (last_some (by simp) lb) m (by simp at h ⊢; omega)]
    rfl
  | x :: a, [], ha, _, la, _, k, m, h => by
    rw [lex_swap, List.nil_append, lex_zeros m (x :: a) ha (last_some (by simp) la) k (by simp at h ⊢; omega)]
    rfl
  | x :: a, y :: b, ha, hb, la, lb, k, m, h => by
    have ih := lex_trail a b (fun c hc => ha c (List.mem_cons_of_mem _ hc)) (fun c hc => hb c (List.mem_cons_of_mem _ hc)) (last_tail la) (last_tail lb) k m (by simp at h; omega)
    simp only [List.cons_append, lexC, ih]

section
variable {a b : Dec}
theorem fix_len {d : Dec} (h : DecOk d) {n : Int} (hn : (d.ds.length : Int) - 1 - d.fst ≤ n) (h0 : 0 ≤ n) : ((fixD d n).length : Int) = if d.ds = [] then n + 1 else n + 1 + d.fst := by
  unfold fixD
  rw [List.length_append, List.length_replicate]
  by_cases hd : d.ds = []
  · obtain ⟨_, h2⟩ := h.zero hd
    rw [if_pos hd, hd, h2]
    simp
    omega
  · rw [if_neg hd]
    omega
theorem fix_dig {d : Dec} (h : DecOk d) (n : Int) (z : Nat) : ∀ c ∈ padD (fixD d n) z, dgC c = true := by
  intro c hc
  unfold padD fixD at hc
  simp only [List.mem_append, List.mem_replicate] at hc
  rcases hc with ⟨_, rfl⟩ | hc | ⟨_, rfl⟩
  · rfl
  · exact h.digs c hc
  · rfl
theorem pad_len (l : List UInt8) {z : Nat} (h : l.length ≤ z) : (padD l z).length = z := by
  unfold padD
  rw [List.length_append, List.length_replicate]
  omega
theorem fix_zero {d : Dec} (h : DecOk d) (n : Int) (z : Nat) : (padD (fixD d n) z).all zC = true ↔ d.ds = [] := by
  constructor
  · intro h1
    rcases Classical.em (d.ds = []) with h2 | h2
    · exact h2
    · obtain ⟨c, hc, h3⟩ := last_some h2 h.last
      rw [List.all_eq_true] at h1
      have := h1 c (by unfold padD fixD; simp [hc])
      exact absurd (by simpa [zC] using this) h3
  · intro h1
    unfold padD fixD
    rw [h1]
    simp [zC]
theorem magD_swap (a b : Dec) : magD b a = -magD a b := by
  unfold magD
  by_cases h : a.ds = [] ∨ b.ds = []
  · rw [if_pos h, if_pos h.symm]
    unfold cmpI
    split <;> split <;> (try split) <;> omega
  · rw [if_neg h, if_neg fun h' => h h'.symm]
    by_cases hf : a.fst = b.fst
    · rw [if_pos hf, if_pos hf.symm, lex_swap]
    · rw [if_neg hf, if_neg fun e => hf e.symm]
      unfold cmpI
      split <;> split <;> (try split) <;> omega
theorem mag_less (ha : DecOk a) (hb : DecOk b) {n : Int} {z : Nat} (h0 : 0 ≤ n) (na : (a.ds.length : Int) - 1 - a.fst ≤ n) (nb : (b.ds.length : Int) - 1 - b.fst ≤ n) (za : (fixD a n).length ≤ z) (zb : (fixD b n).length ≤ z)
    (hbn : b.ds ≠ []) (hl : a.ds = [] ∨ a.fst < b.fst) : lexC (padD (fixD a n) z) (padD (fixD b n) z) = -1 := by
  have lb := fix_len hb nb h0
  rw [if_neg hbn] at lb
  rcases Classical.em (a.ds = []) with h1 | h1
  · have hx : padD (fixD a n) z = List.replicate z 48 := by
      have := pad_len (fixD a n) za
      refine List.eq_replicate_iff.2 ⟨this, fun c hc => ?_⟩
      have h2 := (fix_zero ha n z).2 h1
      rw [List.all_eq_true] at h2
      simpa [zC] using h2 c hc
    rw [hx]
    have := lex_zeros z (List.replicate (z - (fixD b n).length) 48 ++ b.ds) (by
      intro c hc
      rcases List.mem_append.1 hc with hc | hc
      · rw [(List.mem_replicate.1 hc).2]; rfl
      · exact hb.digs c hc) (by
      obtain ⟨c, hc, h3⟩ := last_some hbn hb.last
      exact ⟨c, List.mem_append_right _ hc, h3⟩) (n - ((b.ds.length : Int) - 1 - b.fst)).toNat (by
      have h4 : (fixD b n).length = b.ds.length + (n - ((b.ds.length : Int) - 1 - b.fst)).toNat := by unfold fixD; rw [List.length_append, List.length_replicate]
      rw [List.length_append, List.length_replicate]
      omega)
    rw [List.append_assoc] at this
    exact this
  · have hlt : a.fst < b.fst := hl.resolve_left h1
    have la := fix_len ha na h0
    rw [if_neg h1] at la
    show lexC (List.replicate _ 48 ++ _) (List.replicate _ 48 ++ _) = -1
    refine lex_lead (by omega) ?_
    cases hds : b.ds with
    | nil => exact absurd hds hbn
    | cons c r =>
      refine ⟨c, r ++ List.replicate (n - ((b.ds.length : Int) - 1 - b.fst)).toNat 48, ?_, hb.digs c (by rw [hds]; exact List.mem_cons_self ..), hb.head c (by rw [hds]; rfl)⟩
      unfold fixD
      rw [hds]
      rfl
/-- the padded integers compare as the numbers' magnitudes do -/
theorem mag_lex (ha : DecOk a) (hb : DecOk b) {n : Int} {z : Nat} (h0 : 0 ≤ n) (na : (a.ds.length : Int) - 1 - a.fst ≤ n) (nb : (b.ds.length : Int) - 1 - b.fst ≤ n) (za : (fixD a n).length ≤ z) (zb : (fixD b n).length ≤ z) :
    lexC (padD (fixD a n) z) (padD (fixD b n) z) = magD a b := by
  by_cases h1 : a.ds = []
  · by_cases h2 : b.ds = []
    · have hx : ∀ {d : Dec}, DecOk d → (fixD d n).length ≤ z → d.ds = [] → padD (fixD d n) z = List.replicate z 48 := fun {d} hd zd e => by
        refine List.eq_replicate_iff.2 ⟨pad_len (fixD d n) zd, fun c hc => ?_⟩
        have h2 := (fix_zero hd n z).2 e
        rw [List.all_eq_true] at h2
        simpa [zC] using h2 c hc
      rw [hx ha za h1, hx hb zb h2, lex_refl]
      unfold magD
      rw [if_pos (.inl h1), h1, h2]
      rfl
    · rw [mag_less ha hb h0 na nb za zb h2 (.inl h1)]
      unfold magD cmpI
      rw [if_pos (.inl h1), h1, if_pos]
      have := List.length_pos_iff.2 h2
      simp; omega
  · by_cases h2 : b.ds = []
    · rw [lex_swap, mag_less hb ha h0 nb na zb za h1 (.inl h2)]
      unfold magD cmpI
      have := List.length_pos_iff.2 h1
      rw [if_pos (.inr h2), h2, if_neg (by simp), if_pos (by simp; omega)]
      rfl
    · have hm : ¬ (a.ds = [] ∨ b.ds = []) := fun h => h.elim h1 h2
      rcases Int.lt_trichotomy a.fst b.fst with h3 | h3 | h3
      · rw [mag_less ha hb h0 na nb za zb h2 (.inr h3)]
        unfold magD cmpI
        rw [if_neg hm, if_neg (by omega), if_pos h3]
      · have la := fix_len ha na h0
        have lb := fix_len hb nb h0
        rw [if_neg h1] at la
        rw [if_neg h2] at lb
        have he : (fixD a n).length = (fixD b n).length := by omega
        unfold padD
        rw [he, lex_app]
        unfold fixD at he ⊢
        rw [List.length_append, List.length_append, List.length_replicate, List.length_replicate] at he
        rw [lex_trail a.ds b.ds ha.digs hb.digs ha.last hb.last _ _ he]
        unfold magD
        rw [if_neg hm, if_pos h3]
      · rw [lex_swap, mag_less hb ha h0 nb na zb za h1 (.inr h3)]
        unfold magD cmpI
        rw [if_neg hm, if_neg (by omega), if_neg (by omega), if_pos h3]
        rfl
theorem negD_ok (h : DecOk b) : DecOk (negD b) := ⟨h.digs, h.head, h.last, h.len, h.f0, h.f1, fun e => ⟨by simp [negD, show b.ds = [] from e], (h.zero e).2⟩⟩
theorem magD_neg (a b : Dec) : magD a (negD b) = magD a b := rfl
theorem magD_zero (ha : DecOk a) (hb : DecOk b) (h : magD a b = 0) : a.ds = b.ds ∧ a.fst = b.fst := by
  unfold magD at h
  split at h
  · rename_i h1
    unfold cmpI at h
    have : a.ds.length = b.ds.length := by
      split at h
      · omega
      · split at h <;> omega
    have h2 : a.ds = [] ∧ b.ds = [] := by
      rcases h1 with h1 | h1
      · rw [h1] at this; exact ⟨h1, List.eq_nil_of_length_eq_zero (by simpa using this.symm)⟩
      · rw [h1] at this; exact ⟨List.eq_nil_of_length_eq_zero (by simpa using this), h1⟩
    exact ⟨by rw [h2.1, h2.2], by rw [(ha.zero h2.1).2, (hb.zero h2.2).2]⟩
  · split at h
    · exact ⟨lex_zero _ _ h, by assumption⟩
    · unfold cmpI at h
      split at h
      · omega
      · split at h
        · omega
        · omega
/-- the sign of the exact difference is the comparison -/
theorem sum_cmp (ha : DecOk a) (hb : DecOk b) : sumSgn a (negD b) = cmpD a b := by
  have hnb := negD_ok hb
  unfold sumSgn
  obtain ⟨n, hn⟩ : ∃ n, placesD a (negD b) = n := ⟨_, rfl⟩
  obtain ⟨x, hx⟩ : ∃ x, fixD a n = x := ⟨_, rfl⟩
  obtain ⟨y, hy⟩ : ∃ y, fixD (negD b) n = y := ⟨_, rfl⟩
  obtain ⟨z, hz⟩ : ∃ z, max (max x.length y.length) 1 = z := ⟨_, rfl⟩
  have h0 : 0 ≤ n := by unfold placesD at hn; omega
  have na : (a.ds.length : Int) - 1 - a.fst ≤ n := by unfold placesD at hn; omega
  have nb : (((negD b).ds.length : Nat) : Int) - 1 - (negD b).fst ≤ n := by unfold placesD at hn; omega
  have za : (fixD a n).length ≤ z := by rw [hx]; omega
  have zb : (fixD (negD b) n).length ≤ z := by rw [hy]; omega
  have key := mag_lex ha hnb h0 na nb za zb
  have l1 := pad_len (fixD a n) za
  have l2 := pad_len (fixD (negD b) n) zb
  have g1 := fix_dig ha n z
  have g2 := fix_dig hnb n z
  have z1 := fix_zero ha n z
  have z2 := fix_zero hnb n z
  rw [hx] at key l1 g1 z1
  rw [hy] at key l2 g2 z2
  simp only [hn, hx, hy, hz]
  have A0 := add_zero _ _ (by rw [l1, l2]) g1 g2
  have A1 := (sub_zero _ _ (by rw [l1, l2]) g1 g2).1
  have A2 := (sub_zero _ _ (by rw [l2, l1]) g2 g1).1
  rw [z1, z2] at A0
  have hlex : padD x z = padD y z ↔ magD a b = 0 := by
    rw [← magD_neg, ← key]
    exact ⟨fun e => by rw [e, lex_refl], lex_zero _ _⟩
  rw [hlex] at A1
  rw [show (padD y z = padD x z) ↔ magD a b = 0 from ⟨fun e => hlex.1 e.symm, fun e => (hlex.2 e).symm⟩] at A2
  simp only [A0, A1, A2, key, magD_neg]
  have mv : magD a b = -1 ∨ magD a b = 0 ∨ magD a b = 1 := by
    rw [← magD_neg, ← key]
    exact lex_vals _ _
  have hm0 := magD_zero ha hb
  have ea : a.ds = [] → a.neg = false := fun e => (ha.zero e).1
  have eb : b.ds = [] → b.neg = false := fun e => (hb.zero e).1
  have hbs : (negD b).ds = b.ds := rfl
  have hbn : (negD b).neg = (!b.neg && !b.ds.isEmpty) := rfl
  have mz : a.ds = [] → b.ds ≠ [] → magD a b = -1 := fun e1 e2 => by
    unfold magD cmpI
    have := List.length_pos_iff.2 e2
    rw [if_pos (.inl e1), e1, if_pos (by simp; omega)]
  have mz2 : b.ds = [] → a.ds ≠ [] → magD a b = 1 := fun e1 e2 => by
    unfold magD cmpI
    have := List.length_pos_iff.2 e2
    rw [if_pos (.inr e1), e1, if_neg (by simp), if_pos (by simp; omega)]
  have mz3 : a.ds = [] → b.ds = [] → magD a b = 0 := fun e1 e2 => by
    unfold magD cmpI
    rw [if_pos (.inl e1), e1, e2]
    simp
  rw [hbs, hbn]
  unfold cmpD sgnD
  by_cases h1 : a.ds = []
  · by_cases h2 : b.ds = []
    · simp [h1, h2, ea h1]
    · have hm := mz h1 h2
      have hie : b.ds.isEmpty = false := by simpa using h2
      simp only [h1, h2, hm, ea h1, hie]
      cases b.neg <;> simp [cmpI]
  · by_cases h2 : b.ds = []
    · have hm := mz2 h2 h1
      simp only [h1, h2, hm, eb h2]
      cases a.neg <;> simp [cmpI]
    · have hie : b.ds.isEmpty = false := by simpa using h2
      simp only [h1, h2, hie]
      cases a.neg <;> cases b.neg <;> rcases mv with hm | hm | hm <;> simp [cmpI, hm]
/-- comparisons of numbers that are equal -/
theorem cmpD_zero (ha : DecOk a) (hb : DecOk b) : cmpD a b = 0 ↔ a = b := by
  constructor
  · intro h
    unfold cmpD at h
    by_cases hs : sgnD a = sgnD b
    · rw [if_pos hs] at h
      rcases Int.mul_eq_zero.1 h with h1 | h1
      · have h2 : sgnD b = 0 := by omega
        have key : ∀ {d : Dec}, DecOk d → sgnD d = 0 → d = dec0 := fun {d} hd e => by
          unfold sgnD at e
          split at e
          · rename_i h3
            obtain ⟨h4, h5⟩ := hd.zero h3
            cases d
            simp_all [dec0]
          · split at e <;> omega
        rw [key ha h1, key hb h2]
      · obtain ⟨h2, h3⟩ := magD_zero ha hb h1
        have h4 : a.neg = b.neg := by
          unfold sgnD at hs
          by_cases h5 : a.ds = []
          · rw [(ha.zero h5).1, (hb.zero (h2 ▸ h5)).1]
          · have h6 : b.ds ≠ [] := h2 ▸ h5
            rw [if_neg h5, if_neg h6] at hs
            cases hna : a.neg <;> cases hnb : b.neg <;> rw [hna, hnb] at hs <;> simp at hs <;> rfl
        cases a
        cases b
        simp_all
    · rw [if_neg hs] at h
      unfold cmpI at h
      split at h
      · omega
      · split at h <;> omega
  · rintro rfl
    unfold cmpD
    rw [if_pos rfl]
    have : magD a a = 0 := by
      unfold magD
      split
      · simp [cmpI]
      · simp [lex_refl]
    rw [this, Int.mul_zero]
end

end Go.Proofs.YtdlebcijgdkfjaaGreatDoor
