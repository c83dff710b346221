/-
  Several texts in one: MonoP, ResP. Each says at its head what it holds.
-/
import Derived.Test.YtdlebcijgdkfjaaGreatDoorCM14
import Derived.Test.YtdlebcijgdkfjaaGreatDoorCM16

/-
  Known results stay when unknown bits of the signals become known: values and conditions without ===, !== and known. Plain.
-/
namespace Go.Proofs.YtdlebcijgdkfjaaGreatDoor
open Go.RowKit

/-- a bit that may know more -/
def R1 (a b : UInt8) : Prop := (knC a = true → b = a) ∧ bitC a = bitC b
inductive R2 : List UInt8 → List UInt8 → Prop
  | nil : R2 [] []
  | cons {a b : UInt8} {l m : List UInt8} : R1 a b → R2 l m → R2 (a :: l) (b :: m)
theorem R1.refl (a : UInt8) : R1 a a := ⟨fun _ => rfl, rfl⟩
theorem R2.refl : ∀ l, R2 l l
  | [] => .nil
  | a :: l => .cons (.refl a) (R2.refl l)
theorem R2.len {l m : List UInt8} (h : R2 l m) : l.length = m.length := by
  induction h with
  | nil => rfl
  | cons _ _ ih => simp [ih]
theorem R2.bits {l m : List UInt8} (h : R2 l m) : bitsB l = bitsB m := by
  have key : l.all bitC = m.all bitC := by
    induction h with
    | nil => rfl
    | cons h _ ih => rw [List.all_cons, List.all_cons, h.2, ih]
  have := h.len
  unfold bitsB
  rw [key]
  congr 1
  cases l <;> cases m <;> simp_all
theorem R2.known {l m : List UInt8} (h : R2 l m) (hk : knownB l = true) : m = l := by
  induction h with
  | nil => rfl
  | cons h _ ih =>
    unfold knownB at hk ih
    rw [List.all_cons, Bool.and_eq_true] at hk
    rw [h.1 hk.1, ih hk.2]
theorem R2.app {l m l' m' : List UInt8} (h : R2 l m) (k : R2 l' m') : R2 (l ++ l') (m ++ m') := by
  induction h with
  | nil => exact k
  | cons h _ ih => exact .cons h ih
theorem R2.drop {l m : List UInt8} (h : R2 l m) (n : Nat) : R2 (l.drop n) (m.drop n) := by
  induction h generalizing n with
  | nil => simp; exact .nil
  | cons h h2 ih =>
    cases n with
    | zero => exact .cons h h2
    | succ n => exact ih n
theorem R2.take {l m : List UInt8} (h : R2 l m) (n : Nat) : R2 (l.take n) (m.take n) := by
  induction h generalizing n with
  | nil => simp; exact .nil
  | cons h h2 ih =>
    cases n with
    | zero => exact .nil
    | succ n => exact .cons h (ih n)
theorem kn_cases {c : UInt8} (h : knC c = true) : c = 48 ∨ c = 49 := by
  unfold knC at h
  rwa [Bool.or_eq_true, beq_iff_eq, beq_iff_eq] at h
theorem inv_R1 {a b : UInt8} (h : R1 a b) : R1 (invC a) (invC b) := by
  have hb : ∀ c, bitC (invC c) = true := fun c => by unfold invC; split; rfl; split <;> rfl
  refine ⟨fun hk => ?_, by rw [hb, hb]⟩
  have : knC a = true := by
    unfold invC at hk
    split at hk
    · rename_i h1; rw [beq_iff_eq] at h1; subst h1; rfl
    · split at hk
      · rename_i h1; rw [beq_iff_eq] at h1; subst h1; rfl
      · cases hk
  rw [h.1 this]
theorem zx_R1 {a b : UInt8} (h : R1 a b) : R1 (zxC a) (zxC b) := by
  have hb : ∀ c, bitC (zxC c) = true := fun c => by unfold zxC; split; rfl; split <;> rfl
  refine ⟨fun hk => ?_, by rw [hb, hb]⟩
  have : knC a = true := by
    unfold zxC at hk
    split at hk
    · rename_i h1; rw [beq_iff_eq] at h1; subst h1; rfl
    · split at hk
      · rename_i h1; rw [beq_iff_eq] at h1; subst h1; rfl
      · cases hk
  rw [h.1 this]
theorem op_bit (k : Int) (a b : UInt8) : bitC (opC k a b) = true := by
  unfold opC andC orC xorC
  repeat' split
  all_goals rfl
theorem and_R1 {a b c d : UInt8} (h : R1 a b) (k : R1 c d) (hk : knC (andC a c) = true) : andC b d = andC a c := by
  unfold andC at hk ⊢
  by_cases h1 : (a == 48 || c == 48) = true
  · rw [if_pos h1]
    rw [Bool.or_eq_true, beq_iff_eq, beq_iff_eq] at h1
    rw [if_pos]
    rw [Bool.or_eq_true, beq_iff_eq, beq_iff_eq]
    rcases h1 with rfl | rfl
    · exact .inl (h.1 rfl)
    · exact .inr (k.1 rfl)
  · rw [if_neg h1] at hk ⊢
    by_cases h2 : (knC a && knC c) = true
    · rw [Bool.and_eq_true] at h2
      rw [h.1 h2.1, k.1 h2.2, if_neg h1]
    · rw [if_neg h2] at hk; cases hk
theorem or_R1 {a b c d : UInt8} (h : R1 a b) (k : R1 c d) (hk : knC (orC a c) = true) : orC b d = orC a c := by
  unfold orC at hk ⊢
  by_cases h1 : (a == 49 || c == 49) = true
  · rw [if_pos h1]
    rw [Bool.or_eq_true, beq_iff_eq, beq_iff_eq] at h1
    rw [if_pos]
    rw [Bool.or_eq_true, beq_iff_eq, beq_iff_eq]
    rcases h1 with rfl | rfl
    · exact .inl (h.1 rfl)
    · exact .inr (k.1 rfl)
  · rw [if_neg h1] at hk ⊢
    by_cases h2 : (knC a && knC c) = true
    · rw [Bool.and_eq_true] at h2
      rw [h.1 h2.1, k.1 h2.2, if_neg h1]
    · rw [if_neg h2] at hk; cases hk
theorem xor_R1 {a b c d : UInt8} (h : R1 a b) (k : R1 c d) (hk : knC (xorC a c) = true) : xorC b d = xorC a c := by
  unfold xorC at hk ⊢
  by_cases h2 : (knC a && knC c) = true
  · have h3 := h2
    rw [Bool.and_eq_true] at h2
    rw [h.1 h2.1, k.1 h2.2]
  · rw [if_neg h2] at hk; cases hk
theorem op_R1 (q : Int) {a b c d : UInt8} (h : R1 a b) (k : R1 c d) : R1 (opC q a c) (opC q b d) := by
  refine ⟨fun hk => ?_, by rw [op_bit, op_bit]⟩
  unfold opC at hk ⊢
  by_cases q9 : q = 9
  · rw [if_pos q9] at hk ⊢; rw [if_pos q9]; exact and_R1 h k hk
  · rw [if_neg q9] at hk ⊢
    rw [if_neg q9]
    by_cases q10 : q = 10
    · rw [if_pos q10] at hk ⊢; rw [if_pos q10]; exact or_R1 h k hk
    · rw [if_neg q10] at hk ⊢; rw [if_neg q10]; exact xor_R1 h k hk
theorem zip_R2 (q : Int) {l m l' m' : List UInt8} (h : R2 l m) (k : R2 l' m') : R2 (List.zipWith (opC q) l l') (List.zipWith (opC q) m m') := by
  induction h generalizing l' m' with
  | nil => exact .nil
  | cons h _ ih =>
    cases k with
    | nil => exact .nil
    | cons k k2 => exact .cons (op_R1 q h k) (ih k2)
theorem fold_R1 (q : Int) {l m : List UInt8} (h : R2 l m) : ∀ {a b : UInt8}, R1 a b → R1 (l.foldl (opC q) a) (m.foldl (opC q) b) := by
  induction h with
  | nil => exact fun h => h
  | cons h _ ih => exact fun h2 => ih (op_R1 q h2 h)
theorem rep_R2 (n : Nat) {m : List UInt8} (hl : m.length = n) (hm : ∀ c ∈ m, bitC c = true) : R2 (List.replicate n 120) m := by
  induction n generalizing m with
  | zero => have : m = [] := List.eq_nil_of_length_eq_zero hl; subst this; exact .nil
  | succ n ih =>
    cases m with
    | nil => cases hl
    | cons c m =>
      rw [List.replicate_succ]
      exact .cons ⟨fun h => (by cases h), (hm c (by simp)).symm⟩ (ih (by simpa using hl) fun c hc => hm c (by simp [hc]))
theorem add_bits : ∀ (xs ys : List UInt8) (c : Nat), ∀ u ∈ (addR xs ys c).1, bitC u = true
  | [], _, _, u, hu => by simp [addR] at hu
  | _ :: _, [], _, u, hu => by simp [addR] at hu
  | x :: xs, y :: ys, c, u, hu => by
    simp only [addR, List.mem_cons] at hu
    rcases hu with rfl | hu
    · have : (nb x + nb y + (addR xs ys c).2) % 2 = 0 ∨ (nb x + nb y + (addR xs ys c).2) % 2 = 1 := by omega
      rcases this with h | h <;> rw [h] <;> rfl
    · exact add_bits xs ys c u hu
theorem both_R2 (q : Int) {l m l' m' : List UInt8} (h : R2 l m) (k : R2 l' m') (hl : l.length = l'.length) : R2 (bothL q l l') (bothL q m m') := by
  have e1 := h.len
  have e2 := k.len
  unfold bothL
  by_cases h12 : q = 12 ∨ q = 13
  · rw [if_pos h12, if_pos h12]
    by_cases hk : (knownB l && knownB l') = true
    · have hk2 := hk
      rw [Bool.and_eq_true] at hk2
      rw [h.known hk2.1, k.known hk2.2, if_pos hk]
      exact .refl _
    · rw [if_neg hk]
      split
      · have e3 : (sumL m m' (q == 13)).length = l.length := by
          unfold sumL
          split
          · rw [addR_len _ _ _ (by simp; omega)]; exact e1.symm
          · rw [addR_len _ _ _ (by omega)]; exact e1.symm
        refine rep_R2 _ e3 fun c hc => ?_
        unfold sumL at hc
        split at hc
        · exact add_bits _ _ _ c hc
        · exact add_bits _ _ _ c hc
      · rw [e1]; exact .refl _
  · rw [if_neg h12, if_neg h12]
    exact zip_R2 q h k
theorem one_R2 (q a b : Int) {l m : List UInt8} (h : R2 l m) : R2 (oneL q a b l) (oneL q a b m) := by
  have e1 := h.len
  unfold oneL
  split
  · clear e1
    induction h with
    | nil => exact .nil
    | cons h _ ih => exact .cons (inv_R1 h) ih
  · split
    · unfold sliceL
      rw [← e1]
      split
      · exact .nil
      · exact (h.drop _).take _
    · split
      · unfold redL
        cases h with
        | nil => exact .nil
        | cons h k => exact .cons (fold_R1 _ k (zx_R1 h)) .nil
      · exact .nil
/-- lists of values that may know more -/
inductive R3 : List (List UInt8) → List (List UInt8) → Prop
  | nil : R3 [] []
  | cons {a b : List UInt8} {l m : List (List UInt8)} : R2 a b → R3 l m → R3 (a :: l) (b :: m)
theorem apply_R2 (q a b : Int) {l m : List (List UInt8)} (h : R3 l m) : R2 (applyL q a b l) (applyL q a b m) := by
  have e : l.any (fun v => !bitsB v) = m.any (fun v => !bitsB v) := by
    induction h with
    | nil => rfl
    | cons h _ ih => rw [List.any_cons, List.any_cons, h.bits, ih]
  unfold applyL
  rw [e]
  split
  · exact .nil
  · split
    · induction h with
      | nil => exact .nil
      | cons h _ ih =>
        rw [List.flatten_cons, List.flatten_cons]
        refine h.app (ih ?_ ?_)
        · rw [List.any_cons, List.any_cons, h.bits] at e
          rename_i hn
          rw [List.any_cons, Bool.or_eq_true, not_or] at hn
          rw [Bool.not_eq_true] at hn
          rw [hn.1, Bool.false_or, Bool.false_or] at e
          exact e
        · rename_i hn
          rw [List.any_cons, Bool.or_eq_true, not_or] at hn
          exact hn.2
    · split
      · cases h with
        | nil => exact .nil
        | cons h k =>
          cases k with
          | nil => exact .nil
          | cons k k2 =>
            cases k2 with
            | nil =>
              have e1 := h.len
              have e2 := k.len
              dsimp only
              split
              · rename_i hl
                rw [if_pos (by omega)]
                exact both_R2 q h k hl
              · rename_i hl
                rw [if_neg (by omega)]
                exact .nil
            | cons _ _ => exact .nil
      · cases h with
        | nil => exact .nil
        | cons h k =>
          cases k with
          | nil => exact one_R2 q a b h
          | cons _ _ => exact .nil

/-- the second environment knows more of a tree's signals; those that are no bits are the same -/
def knowB (env env' : Int → ByteArray) (n : Nd) (l : List Prop) : Prop := (n.kind = 1 → R2 (env n.a).data.toList (env' n.a).data.toList ∧ (n.c ≠ 0 → env n.a = env' n.a)) ∧ ∀ p ∈ l, p
def Know (env env' : Int → ByteArray) (n : Nd) : Prop := n.fold (knowB env env')
theorem Know_eq (env env' : Int → ByteArray) (n : Nd) : Know env env' n ↔ (n.kind = 1 → R2 (env n.a).data.toList (env' n.a).data.toList ∧ (n.c ≠ 0 → env n.a = env' n.a)) ∧ ∀ k ∈ n.kids, Know env env' k := by
  unfold Know
  rw [Nd.fold_eq]
  unfold knowB
  refine and_congr_right fun _ => ⟨fun h k hk => h _ (List.mem_map.2 ⟨k, hk, rfl⟩), fun h p hp => ?_⟩
  obtain ⟨k, hk, rfl⟩ := List.mem_map.1 hp
  exact h k hk
theorem val_mono {env env' : Int → ByteArray} (n : Nd) : Know env env' n → R2 (valF env n).data.toList (valF env' n).data.toList := by
  induction n using Nd.ind with
  | h n ih =>
  intro hk
  obtain ⟨h1, h2⟩ := (Know_eq env env' n).1 hk
  rw [valF_eq, valF_eq]
  unfold vaB
  by_cases k1 : n.kind = 1
  · rw [if_pos k1, if_pos k1]; exact (h1 k1).1
  rw [if_neg k1, if_neg k1]
  by_cases k2 : n.kind = 2 ∨ n.kind = 4 ∨ n.kind = 5
  · rw [if_pos k2, if_pos k2]; exact .refl _
  rw [if_neg k2, if_neg k2]
  refine apply_R2 _ _ _ ?_
  have : ∀ l : List Nd, (∀ k ∈ l, R2 (valF env k).data.toList (valF env' k).data.toList) → R3 (vL2 (l.map (valF env))) (vL2 (l.map (valF env'))) := by
    intro l
    induction l with
    | nil => exact fun _ => .nil
    | cons k l ih => exact fun h => .cons (h k (by simp)) (ih fun m hm => h m (by simp [hm]))
  exact this _ fun k hk => ih k hk (h2 k hk)
/-- what is no value of bits is the same -/
theorem val_same {env env' : Int → ByteArray} {n : Nd} (hk : Know env env' n) {k w : Int} (ht : typeF n = some (k, w)) (hne : k ≠ 0) : valF env n = valF env' n := by
  obtain ⟨h1, h2⟩ := (Know_eq env env' n).1 hk
  rw [typeF_eq] at ht
  unfold typeB at ht
  rw [valF_eq, valF_eq]
  unfold vaB
  by_cases k1 : n.kind = 1
  · rw [if_pos k1, if_pos k1]
    rw [if_pos k1] at ht
    refine (h1 k1).2 fun hc => ?_
    split at ht
    · cases ht
    · split at ht
      · omega
      · split at ht
        · obtain ⟨h7, _⟩ := widthOk_some ht
          injection h7 with h8 _
          exact hne h8
        · cases ht
  rw [if_neg k1, if_neg k1]
  by_cases k2 : n.kind = 2 ∨ n.kind = 4 ∨ n.kind = 5
  · rw [if_pos k2, if_pos k2]
  exfalso
  rw [if_neg k1, if_neg (by omega), if_neg (by omega), if_neg (by omega)] at ht
  split at ht
  · split at ht
    · obtain ⟨h7, _⟩ := widthOk_some ht
      injection h7 with h8 _
      exact hne h8
    · cases ht
  · cases ht

/-- trees without ===, !== and known -/
def exactB (n : Nd) (l : List Bool) : Bool := l.all (fun b => b) && (decide (n.kind ≠ 21) && decide (n.kind ≠ 22) && decide (n.kind ≠ 27))
def exactF (n : Nd) : Bool := n.fold exactB
theorem exactF_eq (n : Nd) : exactF n = ((n.kids.all exactF) && (decide (n.kind ≠ 21) && decide (n.kind ≠ 22) && decide (n.kind ≠ 27))) := by
  unfold exactF
  rw [Nd.fold_eq]
  unfold exactB
  rw [List.all_map]
  rfl
/-- a result that may be known more -/
def Rk (a b : ByteArray) : Prop := (a = ⟨#[49]⟩ → b = ⟨#[49]⟩) ∧ (a = ⟨#[48]⟩ → b = ⟨#[48]⟩)
theorem diff_R2 {l m l' m' : List UInt8} (h : R2 l m) (k : R2 l' m') : diffL l l' = true → diffL m m' = true := by
  induction h generalizing l' m' with
  | nil => exact fun h => (by cases l' <;> cases h)
  | cons h _ ih =>
    cases k with
    | nil => exact fun h => (by cases h)
    | cons k k2 =>
      intro hd
      unfold diffL at hd ih ⊢
      rw [List.zipWith_cons_cons, List.any_cons, Bool.or_eq_true] at hd ⊢
      rcases hd with hd | hd
      · left
        unfold diffC at hd ⊢
        simp only [id] at hd ⊢
        rw [Bool.and_eq_true, Bool.and_eq_true] at hd
        rw [h.1 hd.1.1, k.1 hd.1.2, hd.1.1, hd.1.2]
        exact hd.2
      · exact .inr (ih k2 hd)
theorem bit_Rk {p q : Bool × Bool} (h : p.2 = true → q = p) : Rk (bitS p) (bitS q) := by
  obtain ⟨a, b⟩ := p
  cases b with
  | true => rw [h rfl]; exact ⟨fun h => h, fun h => h⟩
  | false => exact ⟨fun h => (by cases a <;> exact absurd h (by decide)), fun h => (by cases a <;> exact absurd h (by decide))⟩
theorem eqP_R2 {l m l' m' : List UInt8} (h : R2 l m) (k : R2 l' m') (hs : (eqP l l').2 = true) : eqP m m' = eqP l l' := by
  unfold eqP at hs ⊢
  by_cases hd : diffL l l' = true
  · rw [if_pos hd, if_pos (diff_R2 h k hd)]
  · rw [if_neg hd] at hs ⊢
    have hs2 := hs
    rw [Bool.and_eq_true] at hs2
    rw [h.known hs2.1, k.known hs2.2, if_neg hd]
theorem cmp_R2 {op : Int} (h21 : op ≠ 21) (h22 : op ≠ 22) {a b a' b' : ByteArray} (h : R2 a.data.toList a'.data.toList) (k : R2 b.data.toList b'.data.toList) : (cmpBits op a b).2 = true → cmpBits op a' b' = cmpBits op a b := by
  have e1 := h.len
  have e2 := k.len
  have ea : a.size = a'.size := by simpa using e1
  have eb : b.size = b'.size := by simpa using e2
  unfold cmpBits
  rw [← h.bits, ← k.bits, ← ea, ← eb]
  split
  · by_cases h19 : op = 19
    · rw [if_pos h19, if_pos h19]
      intro hs
      rw [eqP_R2 h k hs]
    · rw [if_neg h19, if_neg h19]
      by_cases h20 : op = 20
      · rw [if_pos h20, if_pos h20]
        intro hs
        rw [eqP_R2 h k hs]
      · simp only [if_neg h20]
        split
        · rename_i hk
          rw [Bool.and_eq_true] at hk
          intro _
          rw [h.known hk.1, k.known hk.2, hk.1, hk.2]
          rfl
        · intro hs; cases hs
  · intro _; rfl

theorem val_one {a b : ByteArray} (h : R2 a.data.toList b.data.toList) (hk : knownS a = true) : b = a := by
  have := h.known hk
  exact ByteArray.ext (Array.toList_inj.1 this)
theorem not_Rk {a b : ByteArray} (ha : Tri3 a) (hb : Tri3 b) (h : Rk a b) : Rk (applyS 8 [a]) (applyS 8 [b]) := by
  obtain ⟨_, a1, a2⟩ := not_tri ha
  obtain ⟨_, b1, b2⟩ := not_tri hb
  exact ⟨fun e => b1.2 (h.2 (a1.1 e)), fun e => b2.2 (h.1 (a2.1 e))⟩
theorem tru_mono {env env' : Int → ByteArray} (n : Nd) : resF n = true → exactF n = true → Know env env' n → Rk (truF env n) (truF env' n) := by
  induction n using Nd.ind with
  | h n ih =>
  intro hr hx hk
  have hk2 := ((Know_eq env env' n).1 hk).2
  have hvn := val_mono n hk
  rw [resF_eq] at hr
  rw [exactF_eq, Bool.and_eq_true, Bool.and_eq_true, Bool.and_eq_true, List.all_eq_true] at hx
  obtain ⟨hx1, ⟨hx2, hx3⟩, hx4⟩ := hx
  have hx2 := of_decide_eq_true hx2
  have hx3 := of_decide_eq_true hx3
  have hx4 := of_decide_eq_true hx4
  rw [truF_eq, truF_eq]
  unfold resB at hr
  unfold truB
  by_cases k17 : n.kind = 17
  · rw [if_pos k17, if_pos k17]; exact ⟨fun h => h, fun h => h⟩
  rw [if_neg k17, if_neg k17]
  by_cases k18 : n.kind = 18
  · rw [if_pos k18, if_pos k18]; exact ⟨fun h => h, fun h => h⟩
  rw [if_neg k18, if_neg k18]
  rw [if_neg (by omega)] at hr
  by_cases kc : 19 ≤ n.kind ∧ n.kind ≤ 26
  · rw [if_pos kc] at hr
    rw [if_pos kc, if_pos kc]
    rw [Bool.and_eq_true, beq_iff_eq] at hr
    match h : n.kids, hr, hk2 with
    | [x, y], hr, hk2 =>
      refine bit_Rk fun hs => ?_
      have hx := hk2 x (by simp)
      have hy := hk2 y (by simp)
      obtain ⟨_, hr⟩ := hr
      have hty : ∃ p, typeF x = some p ∧ typeF y = some p := by
        unfold typedK at hr
        dsimp only at hr
        split at hr
        · rename_i k hk
          split at hk
          · cases hk
          · rename_i p hp
            split at hk
            · rename_i hall
              exact ⟨p, hp, hall y (by simp)⟩
            · cases hk
        · cases hr
      obtain ⟨⟨k, w⟩, t1, t2⟩ := hty
      have hK : kindK x = k := by unfold kindK; rw [t1]
      rw [hK] at hs ⊢
      unfold cmpA at hs ⊢
      have hno : ¬ (n.kind < 19 ∨ 26 < n.kind) := by omega
      simp only [if_neg hno] at hs ⊢
      by_cases k0 : k = 0
      · simp only [if_pos k0] at hs ⊢
        exact cmp_R2 hx2 hx3 (val_mono x hx) (val_mono y hy) hs
      · rw [val_same hx t1 k0, val_same hy t2 k0]
  rw [if_neg kc] at hr
  rw [if_neg kc, if_neg kc]
  rw [if_neg hx4] at hr
  rw [if_neg hx4, if_neg hx4]
  by_cases k28 : n.kind = 28
  · rw [if_pos k28] at hr
    rw [if_pos k28, if_pos k28]
    match h : n.kids, hr, ih, hx1, hk2 with
    | [x], hr, ih, hx1, hk2 => exact not_Rk (tru_tri env x hr) (tru_tri env' x hr) (ih x (by simp) hr (hx1 x (by simp)) (hk2 x (by simp)))
    | [], hr, _, _, _ => cases hr
    | _ :: _ :: _, hr, _, _, _ => cases hr
  rw [if_neg k28] at hr
  rw [if_neg k28, if_neg k28]
  by_cases k29 : n.kind = 29
  · rw [if_pos (.inl k29)] at hr
    rw [if_pos k29, if_pos k29]
    match h : n.kids, hr, ih, hx1, hk2 with
    | [x, y], hr, ih, hx1, hk2 =>
      have hr : (resF x && resF y) = true := hr
      rw [Bool.and_eq_true] at hr
      have h1 := ih x (by simp) hr.1 (hx1 x (by simp)) (hk2 x (by simp))
      have h2 := ih y (by simp) hr.2 (hx1 y (by simp)) (hk2 y (by simp))
      obtain ⟨_, a1, a2⟩ := and_tri (tru_tri env x hr.1) (tru_tri env y hr.2)
      obtain ⟨_, b1, b2⟩ := and_tri (tru_tri env' x hr.1) (tru_tri env' y hr.2)
      exact ⟨fun e => b1.2 ⟨h1.1 (a1.1 e).1, h2.1 (a1.1 e).2⟩, fun e => b2.2 ((a2.1 e).imp h1.2 h2.2)⟩
    | [], hr, _, _, _ => cases hr
    | [_], hr, _, _, _ => cases hr
    | _ :: _ :: _ :: _, hr, _, _, _ => cases hr
  rw [if_neg k29, if_neg k29]
  by_cases k30 : n.kind = 30
  · rw [if_pos (.inr k30)] at hr
    rw [if_pos k30, if_pos k30]
    match h : n.kids, hr, ih, hx1, hk2 with
    | [x, y], hr, ih, hx1, hk2 =>
      have hr : (resF x && resF y) = true := hr
      rw [Bool.and_eq_true] at hr
      have h1 := ih x (by simp) hr.1 (hx1 x (by simp)) (hk2 x (by simp))
      have h2 := ih y (by simp) hr.2 (hx1 y (by simp)) (hk2 y (by simp))
      obtain ⟨_, a1, a2⟩ := or_tri (tru_tri env x hr.1) (tru_tri env y hr.2)
      obtain ⟨_, b1, b2⟩ := or_tri (tru_tri env' x hr.1) (tru_tri env' y hr.2)
      exact ⟨fun e => b1.2 ((a1.1 e).imp h1.1 h2.1), fun e => b2.2 ⟨h1.2 (a2.1 e).1, h2.2 (a2.1 e).2⟩⟩
    | [], hr, _, _, _ => cases hr
    | [_], hr, _, _, _ => cases hr
    | _ :: _ :: _ :: _, hr, _, _, _ => cases hr
  rw [if_neg k30, if_neg k30]
  refine bit_Rk fun hs => ?_
  rw [val_one hvn hs]

end Go.Proofs.YtdlebcijgdkfjaaGreatDoor

/-
  wavestorelaw51.resolve: the signal that it makes knows more at every time. Plain.
-/
namespace Go.Proofs.YtdlebcijgdkfjaaGreatDoor
open Go.RowKit

/-- the k-th bit in place of an unknown one -/
def subC (ws : List UInt8) (k : Nat) : UInt8 := UInt8.ofNat (48 + (ws.getD (k % ws.length) 0).toNat % 2)
theorem subC_kn (ws : List UInt8) (k : Nat) : knC (subC ws k) = true := by
  unfold subC
  have : (ws.getD (k % ws.length) 0).toNat % 2 = 0 ∨ (ws.getD (k % ws.length) 0).toNat % 2 = 1 := by omega
  rcases this with h | h <;> rw [h] <;> rfl
theorem kn_bit {c : UInt8} (h : knC c = true) : bitC c = true := by
  rcases kn_cases h with rfl | rfl <;> rfl
/-- bits, the unknown ones replaced, the first of them by the k-th bit -/
def fillL (ws : List UInt8) : List UInt8 → Nat → List UInt8
  | [], _ => []
  | c :: r, k => if knC c then c :: fillL ws r k else subC ws k :: fillL ws r (k + 1)
def fillK : List UInt8 → Nat → Nat
  | [], k => k
  | c :: r, k => if knC c then fillK r k else fillK r (k + 1)
theorem fillL_cons (ws : List UInt8) (c : UInt8) (r : List UInt8) (k : Nat) : fillL ws (c :: r) k = if knC c then c :: fillL ws r k else subC ws k :: fillL ws r (k + 1) := rfl
theorem fillK_cons (c : UInt8) (r : List UInt8) (k : Nat) : fillK (c :: r) k = if knC c then fillK r k else fillK r (k + 1) := rfl
theorem fillL_len (ws : List UInt8) : ∀ (l : List UInt8) (k : Nat), (fillL ws l k).length = l.length
  | [], _ => rfl
  | c :: r, k => by
    unfold fillL
    split
    · rw [List.length_cons, List.length_cons, fillL_len]
    · rw [List.length_cons, List.length_cons, fillL_len]
theorem fillK_le : ∀ (l : List UInt8) (k : Nat), k ≤ fillK l k ∧ fillK l k ≤ k + l.length
  | [], _ => ⟨Nat.le_refl _, Nat.le_refl _⟩
  | c :: r, k => by
    unfold fillK
    rw [List.length_cons]
    split
    · have := fillK_le r k; omega
    · have := fillK_le r (k + 1); omega
theorem fillL_app (ws : List UInt8) (b : List UInt8) : ∀ (a : List UInt8) (k : Nat), fillL ws (a ++ b) k = fillL ws a k ++ fillL ws b (fillK a k)
  | [], _ => rfl
  | c :: r, k => by
    rw [List.cons_append, fillL_cons, fillL_cons, fillK_cons, fillL_app ws b r k, fillL_app ws b r (k + 1)]
    split <;> rfl
theorem fillK_app (b : List UInt8) : ∀ (a : List UInt8) (k : Nat), fillK (a ++ b) k = fillK b (fillK a k)
  | [], _ => rfl
  | c :: r, k => by
    rw [List.cons_append, fillK_cons, fillK_cons, fillK_app b r k, fillK_app b r (k + 1)]
    split <;> rfl
theorem fill_bits (ws : List UInt8) : ∀ (l : List UInt8) (k : Nat), (fillL ws l k).all bitC = true
  | [], _ => rfl
  | c :: r, k => by
    unfold fillL
    split
    · rename_i h
      rw [List.all_cons, kn_bit h, fill_bits ws r k]; rfl
    · rw [List.all_cons, kn_bit (subC_kn ws k), fill_bits ws r (k + 1)]; rfl
theorem fill_R2 (ws : List UInt8) : ∀ (l : List UInt8) (k : Nat), l.all bitC = true → R2 l (fillL ws l k)
  | [], _, _ => .nil
  | c :: r, k, h => by
    rw [List.all_cons, Bool.and_eq_true] at h
    unfold fillL
    split
    · exact .cons (.refl c) (fill_R2 ws r k h.2)
    · rename_i hn
      exact .cons ⟨fun h2 => absurd h2 hn, by rw [h.1, kn_bit (subC_kn ws k)]⟩ (fill_R2 ws r (k + 1) h.2)
theorem fill_step (ws : List UInt8) (l : List UInt8) (k : Nat) {i : Nat} (hi : i < l.length) :
    fillL ws (l.take (i + 1)) k = fillL ws (l.take i) k ++ [if knC l[i] then l[i] else subC ws (fillK (l.take i) k)] ∧ fillK (l.take (i + 1)) k = if knC l[i] then fillK (l.take i) k else fillK (l.take i) k + 1 := by
  rw [List.take_succ_eq_append_getElem hi, fillL_app, fillK_app]
  refine ⟨?_, ?_⟩
  · congr 1
    simp only [fillL]
    split <;> rfl
  · simp only [fillK]

/-- the changes so far, the value before, how many bits were replaced -/
structure RSt where
  out : List Chg
  bef : ByteArray
  k : Nat
def resStep (ws : List UInt8) (st : RSt) (c : Chg) : RSt :=
  if bs (fillL ws c.val.data.toList st.k) = st.bef then ⟨st.out, st.bef, fillK c.val.data.toList st.k⟩
  else ⟨st.out ++ [⟨c.time, bs (fillL ws c.val.data.toList st.k)⟩], bs (fillL ws c.val.data.toList st.k), fillK c.val.data.toList st.k⟩
def rslF (ws : List UInt8) (v0 : ByteArray) (cs : List Chg) : RSt := cs.foldl (resStep ws) ⟨[], v0, 0⟩
theorem rslF_snoc (ws : List UInt8) (v0 : ByteArray) (cs : List Chg) (c : Chg) : rslF ws v0 (cs ++ [c]) = resStep ws (rslF ws v0 cs) c := by
  unfold rslF; rw [List.foldl_append]; rfl
theorem foldV_snoc (t : Int) (cs : List Chg) (c : Chg) (v : ByteArray) : foldV t (cs ++ [c]) v = if c.time ≤ t then c.val else foldV t cs v := by
  unfold foldV; rw [List.foldl_append]; rfl
theorem bs_data (l : List UInt8) : (bs l).data.toList = l := by simp [bs]
/-- what holds behind each change -/
structure RInv (v0 : ByteArray) (pre : List Chg) (st : RSt) : Prop where
  len : st.out.length ≤ pre.length
  times : ∀ c ∈ st.out, (∃ d ∈ pre, d.time = c.time ∧ d.val.size = c.val.size) ∧ c.val.data.toList.all bitC = true
  sorted : Sorted47 st.out
  know : ∀ t, R2 (foldV t pre v0).data.toList (foldV t st.out v0).data.toList
  last : ∀ t, (∀ c ∈ pre, c.time ≤ t) → foldV t st.out v0 = st.bef
  kb : ∀ n, (∀ c ∈ pre, c.val.size ≤ n) → st.k ≤ pre.length * n
theorem res_inv (ws : List UInt8) (v0 : ByteArray) : ∀ n (cs : List Chg), cs.length = n → Sorted47 cs → (∀ c ∈ cs, c.val.data.toList.all bitC = true) → RInv v0 cs (rslF ws v0 cs) := by
  intro n
  induction n with
  | zero =>
    intro cs hl _ _
    have : cs = [] := List.eq_nil_of_length_eq_zero hl
    subst this
    exact ⟨Nat.le_refl _, (fun c h => by cases h), List.Pairwise.nil, fun _ => .refl _, fun _ _ => rfl, fun _ _ => Nat.zero_le _⟩
  | succ n ih =>
    intro cs hl hs hb
    have hne : cs ≠ [] := fun e => by rw [e] at hl; cases hl
    obtain ⟨pre, c, rfl⟩ : ∃ pre c, cs = pre ++ [c] := ⟨cs.dropLast, cs.getLast hne, (List.dropLast_concat_getLast hne).symm⟩
    unfold Sorted47 at hs
    rw [List.pairwise_append] at hs
    have hlast : ∀ d ∈ pre, d.time < c.time := fun d hd => hs.2.2 d hd c (by simp)
    have h := ih pre (by simpa using hl) hs.1 fun d hd => hb d (by simp [hd])
    rw [rslF_snoc]
    generalize rslF ws v0 pre = st at h
    obtain ⟨out, bef, k⟩ := st
    have hcb := hb c (by simp)
    have hsz : (bs (fillL ws c.val.data.toList k)).size = c.val.size := by rw [bs_size, fillL_len]; simp
    have hR := fill_R2 ws c.val.data.toList k hcb
    have hkb := h.kb
    have hkl := (fillK_le c.val.data.toList k).2
    have hk2 : ∀ n, (∀ d ∈ pre ++ [c], d.val.size ≤ n) → fillK c.val.data.toList k ≤ (pre ++ [c]).length * n := fun n hn => by
      have h1 := hkb n fun d hd => hn d (by simp [hd])
      have h2 := hn c (by simp)
      have h3 : c.val.data.toList.length = c.val.size := by simp
      rw [List.length_append, List.length_singleton, Nat.add_mul]
      dsimp only at h1
      omega
    have hln := h.len
    have htm := h.times
    dsimp only at hln htm
    unfold resStep
    dsimp only
    split
    · rename_i he
      refine ⟨by dsimp only; rw [List.length_append]; omega, fun d hd => ?_, h.sorted, fun t => ?_, fun t ht => ?_, hk2⟩
      · obtain ⟨⟨e, he1, he2⟩, h2⟩ := htm d hd
        exact ⟨⟨e, by simp [he1], he2⟩, h2⟩
      · dsimp only
        rw [foldV_snoc]
        split
        · rename_i hc
          rw [h.last t fun d hd => by have := hlast d hd; omega]
          dsimp only
          rw [← he, bs_data]
          exact hR
        · exact h.know t
      · exact h.last t fun d hd => ht d (by simp [hd])
    · refine ⟨by dsimp only; rw [List.length_append, List.length_append]; simp; omega, fun d hd => ?_, ?_, fun t => ?_, fun t ht => ?_, hk2⟩
      · dsimp only at hd
        rcases List.mem_append.1 hd with hd | hd
        · obtain ⟨⟨e, he1, he2⟩, h2⟩ := htm d hd
          exact ⟨⟨e, by simp [he1], he2⟩, h2⟩
        · simp at hd
          subst hd
          refine ⟨⟨c, by simp, rfl, hsz.symm⟩, ?_⟩
          dsimp only
          rw [bs_data]
          exact fill_bits ws _ _
      · unfold Sorted47
        rw [List.pairwise_append]
        refine ⟨h.sorted, List.pairwise_singleton _ _, fun d hd e he => ?_⟩
        simp at he
        subst he
        obtain ⟨⟨x, hx1, hx2, _⟩, _⟩ := htm d hd
        have := hlast x hx1
        dsimp only
        omega
      · dsimp only
        rw [foldV_snoc, foldV_snoc]
        split
        · dsimp only
          rw [bs_data]
          exact hR
        · exact h.know t
      · dsimp only
        rw [foldV_snoc, if_pos (ht c (by simp))]

/-- a signal resolved: where it lies is another matter -/
def resC (ws : List UInt8) (s : Sgn) : List Chg := if s.kind ≠ 0 ∨ ws = [] then s.chs else (rslF ws (bs (initB s)) s.chs).out
structure ResOf (ws : List UInt8) (s s' : Sgn) : Prop where
  kind : s'.kind = s.kind
  width : s'.width = s.width
  chs : s'.chs = resC ws s
theorem res_ok {ws : List UInt8} {s s' : Sgn} {fin : Int} (h : ResOf ws s s') (hs : SgOk fin s) : SgOk fin s' := by
  obtain ⟨h1, h2, h3⟩ := h
  unfold resC at h3
  by_cases hc : s.kind ≠ 0 ∨ ws = []
  · rw [if_pos hc] at h3
    exact ⟨by rw [h1]; exact hs.kind, by rw [h1, h2]; exact hs.width, by rw [h3]; exact hs.len, by rw [h3]; exact hs.sorted, by rw [h3]; intro c hcm; obtain ⟨a, b, d⟩ := hs.each c hcm; exact ⟨a, b, by unfold vOk at d ⊢; rw [h1, h2]; exact d⟩⟩
  · rw [if_neg hc] at h3
    have k0 : s.kind = 0 := Decidable.byContradiction fun h => hc (.inl h)
    have hi := res_inv ws (bs (initB s)) _ s.chs rfl hs.sorted fun c hcm => ((hs.each c hcm).2.2.1 k0).2
    generalize rslF ws (bs (initB s)) s.chs = st at *
    refine ⟨by rw [h1]; exact hs.kind, by rw [h1, h2]; exact hs.width, by rw [h3]; exact Nat.le_trans hi.len hs.len, by rw [h3]; exact hi.sorted, ?_⟩
    rw [h3]
    intro c hcm
    obtain ⟨⟨d, hd1, hd2, hd3⟩, hb⟩ := hi.times c hcm
    obtain ⟨a, b, e1, e2⟩ := hs.each d hd1
    refine ⟨by omega, by omega, fun _ => ⟨?_, hb⟩, by omega⟩
    have := (e1 k0).1
    rw [h2]
    omega
theorem res_know {ws : List UInt8} {s s' : Sgn} {fin : Int} (h : ResOf ws s s') (hs : SgOk fin s) (t : Int) : R2 (valS s t).data.toList (valS s' t).data.toList ∧ (s.kind ≠ 0 → valS s t = valS s' t) := by
  obtain ⟨h1, h2, h3⟩ := h
  have hin : initB s' = initB s := by unfold initB; rw [h1, h2]
  unfold resC at h3
  unfold valS
  rw [h1, hin, h3]
  by_cases hc : s.kind ≠ 0 ∨ ws = []
  · rw [if_pos hc]
    exact ⟨.refl _, fun _ => rfl⟩
  · rw [if_neg hc]
    have k0 : s.kind = 0 := Decidable.byContradiction fun h => hc (.inl h)
    have hi := res_inv ws (bs (initB s)) _ s.chs rfl hs.sorted fun c hcm => ((hs.each c hcm).2.2.1 k0).2
    rw [if_neg (by omega), if_neg (by omega)]
    exact ⟨hi.know t, fun h => absurd k0 h⟩

end Go.Proofs.YtdlebcijgdkfjaaGreatDoor
