/-
  Bits as bytes, and what operators make of them: plain definitions and facts, no program.
-/
namespace Go.Proofs.YtdlebcijgdkfjaaGreatDoor

def bitC (c : UInt8) : Bool := c == 48 || c == 49 || c == 120 || c == 122
def bitsB (l : List UInt8) : Bool := !l.isEmpty && l.all bitC
def knC (c : UInt8) : Bool := c == 48 || c == 49
def knownB (l : List UInt8) : Bool := l.all knC
def codeC (c : UInt8) : Nat := if c == 48 then 0 else if c == 49 then 1 else 2
def invC (c : UInt8) : UInt8 := if c == 48 then 49 else if c == 49 then 48 else 120
def zxC (c : UInt8) : UInt8 := if c == 48 then 48 else if c == 49 then 49 else 120
def andC (a b : UInt8) : UInt8 := if a == 48 || b == 48 then 48 else if knC a && knC b then 49 else 120
def orC (a b : UInt8) : UInt8 := if a == 49 || b == 49 then 49 else if knC a && knC b then 48 else 120
def xorC (a b : UInt8) : UInt8 := if knC a && knC b then (if a == b then 48 else 49) else 120
/-- the operator of a kind: 9 and, 10 or, 11 xor -/
def opC (k : Int) (a b : UInt8) : UInt8 := if k = 9 then andC a b else if k = 10 then orC a b else xorC a b
/-- the numeral of a known bit -/
def nb (c : UInt8) : Nat := if c == 49 then 1 else 0
/-- sums from the right: the bits so far, the carry -/
def addR : List UInt8 → List UInt8 → Nat → List UInt8 × Nat
  | x :: xs, y :: ys, c => let r := addR xs ys c; (UInt8.ofNat (48 + (nb x + nb y + r.2) % 2) :: r.1, (nb x + nb y + r.2) / 2)
  | _, _, c => ([], c)
def sumL (xs ys : List UInt8) (minus : Bool) : List UInt8 := if minus then (addR xs (ys.map invC) 1).1 else (addR xs ys 0).1
def bothL (k : Int) (xs ys : List UInt8) : List UInt8 :=
  if k = 12 ∨ k = 13 then (if knownB xs && knownB ys then sumL xs ys (k == 13) else List.replicate xs.length 120) else List.zipWith (opC k) xs ys
def sliceL (xs : List UInt8) (hi lo : Int) : List UInt8 := if lo < 0 ∨ lo > hi ∨ hi ≥ xs.length then [] else (xs.drop (xs.length - 1 - hi.toNat)).take (hi.toNat - lo.toNat + 1)
def redL (k : Int) (xs : List UInt8) : List UInt8 := match xs with | [] => [] | x :: xs => [xs.foldl (opC (k - 5)) (zxC x)]
def oneL (k a b : Int) (xs : List UInt8) : List UInt8 := if k = 8 then xs.map invC else if k = 6 then sliceL xs a b else if 14 ≤ k ∧ k ≤ 16 then redL k xs else []
def applyL (k a b : Int) (vs : List (List UInt8)) : List UInt8 :=
  if vs.any (fun v => !bitsB v) then [] else if k = 7 then vs.flatten
  else if 9 ≤ k ∧ k ≤ 13 then (match vs with | [x, y] => if x.length = y.length then bothL k x y else [] | _ => [])
  else (match vs with | [x] => oneL k a b x | _ => [])

theorem addR_len : ∀ (xs ys : List UInt8) (c : Nat), xs.length = ys.length → (addR xs ys c).1.length = xs.length
  | [], [], _, _ => rfl
  | x :: xs, y :: ys, c, h => by simp only [addR, List.length_cons]; rw [addR_len xs ys c (by simpa using h)]
  | [], _ :: _, _, h => by simp at h
  | _ :: _, [], _, h => by simp at h
theorem nb_le (c : UInt8) : nb c ≤ 1 := by unfold nb; split <;> omega
theorem addR_carry : ∀ (xs ys : List UInt8) (c : Nat), c ≤ 1 → (addR xs ys c).2 ≤ 1
  | [], _, c, h => by simpa [addR] using h
  | _ :: _, [], c, h => by simpa [addR] using h
  | x :: xs, y :: ys, c, h => by
    have := addR_carry xs ys c h
    have := nb_le x
    have := nb_le y
    simp only [addR]
    omega
theorem addR_drop (xs ys : List UInt8) (c : Nat) (h : xs.length = ys.length) (i : Nat) (hi : i < xs.length) :
    addR (xs.drop i) (ys.drop i) c = (UInt8.ofNat (48 + (nb xs[i] + nb (ys[i]'(by omega)) + (addR (xs.drop (i + 1)) (ys.drop (i + 1)) c).2) % 2) :: (addR (xs.drop (i + 1)) (ys.drop (i + 1)) c).1, (nb xs[i] + nb (ys[i]'(by omega)) + (addR (xs.drop (i + 1)) (ys.drop (i + 1)) c).2) / 2) := by
  rw [List.drop_eq_getElem_cons hi, List.drop_eq_getElem_cons (by omega : i < ys.length)]
  rfl
/-- the reference subtracts with a borrow -/
def subR : List UInt8 → List UInt8 → Nat → List UInt8 × Nat
  | x :: xs, y :: ys, c => let r := subR xs ys c; (UInt8.ofNat (48 + (nb x + nb y + r.2) % 2) :: r.1, if nb x < nb y + r.2 then 1 else 0)
  | _, _, c => ([], c)
theorem nb_inv {c : UInt8} (h : knC c = true) : nb (invC c) = 1 - nb c := by
  unfold knC at h
  rw [Bool.or_eq_true, beq_iff_eq, beq_iff_eq] at h
  rcases h with rfl | rfl <;> rfl
theorem sub_add : ∀ (xs ys : List UInt8), xs.length = ys.length → knownB ys = true → (addR xs (ys.map invC) 1).1 = (subR xs ys 0).1 ∧ (addR xs (ys.map invC) 1).2 = 1 - (subR xs ys 0).2 ∧ (subR xs ys 0).2 ≤ 1
  | [], [], _, _ => ⟨rfl, rfl, by simp [subR]⟩
  | x :: xs, y :: ys, h, hk => by
    simp only [knownB, List.all_cons, Bool.and_eq_true] at hk
    obtain ⟨h1, h2, h3⟩ := sub_add xs ys (by simpa using h) hk.2
    have e := nb_inv hk.1
    have := nb_le x
    have := nb_le y
    simp only [List.map_cons, addR, subR, h1, h2, e]
    refine ⟨?_, ?_, ?_⟩
    · congr 2
      congr 1
      omega
    · split <;> omega
    · split <;> omega
  | [], _ :: _, h, _ => by simp at h
  | _ :: _, [], h, _ => by simp at h

end Go.Proofs.YtdlebcijgdkfjaaGreatDoor
