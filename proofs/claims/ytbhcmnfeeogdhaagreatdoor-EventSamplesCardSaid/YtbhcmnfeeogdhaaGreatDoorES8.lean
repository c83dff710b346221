/-
  Several texts in one: SpanS, ZipP, Row, WavM, Src, RefV. Each says at its head what it holds.
-/
import Derived.Test.YtbhcmnfeeogdhaaGreatDoorES3
import Derived.Test.YtbhcmnfeeogdhaaGreatDoorES5
import Derived.Test.YtbhcmnfeeogdhaaGreatDoorES6

/-
  Lists of spans: what it means that they are a function's values over a range, each as long as can be; such a list is one alone. No program.
-/
namespace Go.Proofs.YtbhcmnfeeogdhaaGreatDoor

structure Spn where
  f : Int
  t : Int
  v : ByteArray
/-- the spans of g from a to b -/
def Spans (g : Int → ByteArray) : Int → Int → List Spn → Prop
  | _, _, [] => False
  | a, b, [x] => x.f = a ∧ x.t = b ∧ a ≤ b ∧ ∀ t, a ≤ t → t ≤ b → g t = x.v
  | a, b, x :: y :: r => x.f = a ∧ a ≤ x.t ∧ (∀ t, a ≤ t → t ≤ x.t → g t = x.v) ∧ x.v ≠ y.v ∧ Spans g (x.t + 1) b (y :: r)
section
variable {g h : Int → ByteArray} {a b e e' : Int} {l m : List Spn} {x y : Spn}
theorem Spans.ne (hs : Spans g a b l) : l ≠ [] := by
  cases l with
  | nil => exact hs.elim
  | cons x l => simp
theorem Spans.head (hs : Spans g a b (x :: l)) : x.f = a ∧ a ≤ x.t ∧ g a = x.v ∧ ∀ t, a ≤ t → t ≤ x.t → g t = x.v := by
  cases l with
  | nil => obtain ⟨h1, h2, h3, h4⟩ := hs; exact ⟨h1, by omega, h4 a (by omega) (by omega), fun t h5 h6 => h4 t h5 (by omega)⟩
  | cons y l => obtain ⟨h1, h2, h3, _⟩ := hs; exact ⟨h1, h2, h3 a (by omega) (by omega), h3⟩
theorem Spans.le (hs : Spans g a b l) : a ≤ b := by
  induction l generalizing a with
  | nil => exact hs.elim
  | cons x l ih =>
    cases l with
    | nil => exact hs.2.2.1
    | cons y l => obtain ⟨_, h2, _, _, h5⟩ := hs; have := ih h5; omega
theorem Spans.uniq (hs : Spans g a b l) (hm : Spans g a b m) : l = m := by
  induction l generalizing a m with
  | nil => exact hs.elim
  | cons x l ih =>
    cases m with
    | nil => exact hm.elim
    | cons x' m =>
      obtain ⟨f1, l1, v1, c1⟩ := hs.head
      obtain ⟨f2, l2, v2, c2⟩ := hm.head
      have hv : x.v = x'.v := v1.symm.trans v2
      have key : ∀ {p q : Spn} {r s : List Spn}, Spans g a b (p :: r) → Spans g a b (q :: s) → p.v = q.v → ¬ p.t < q.t := fun {p q r s} hp hq hpq hlt => by
        obtain ⟨_, hq2, _, cq⟩ := hq.head
        cases r with
        | nil =>
          obtain ⟨_, h2, _, _⟩ := hp
          cases s with
          | nil => obtain ⟨_, h3, _, _⟩ := hq; omega
          | cons z s => obtain ⟨_, _, _, _, h5⟩ := hq; have := h5.le; omega
        | cons z r =>
          obtain ⟨_, h2, _, h4, h5⟩ := hp
          obtain ⟨_, _, h6, _⟩ := h5.head
          have := cq (p.t + 1) (by omega) (by omega)
          exact h4 (hpq.trans (this.symm.trans h6))
      have ht : x.t = x'.t := by
        have h1 := key hs hm hv
        have h2 := key hm hs hv.symm
        omega
      have hx : x = x' := by
        cases x
        cases x'
        simp_all
      subst hx
      cases l with
      | nil =>
        cases m with
        | nil => rfl
        | cons y m =>
          obtain ⟨_, h2, _, _⟩ := hs
          obtain ⟨_, _, _, _, h5⟩ := hm
          have := h5.le
          omega
      | cons y l =>
        cases m with
        | nil =>
          obtain ⟨_, h2, _, _⟩ := hm
          obtain ⟨_, _, _, _, h5⟩ := hs
          have := h5.le
          omega
        | cons y' m =>
          obtain ⟨_, _, _, _, h5⟩ := hs
          obtain ⟨_, _, _, _, h6⟩ := hm
          rw [ih h5 h6]
theorem Spans.congr (hs : Spans g a b l) (hg : ∀ t, a ≤ t → t ≤ b → h t = g t) : Spans h a b l := by
  induction l generalizing a with
  | nil => exact hs.elim
  | cons x l ih =>
    cases l with
    | nil => obtain ⟨h1, h2, h3, h4⟩ := hs; exact ⟨h1, h2, h3, fun t h5 h6 => (hg t h5 h6).trans (h4 t h5 h6)⟩
    | cons y l =>
      obtain ⟨h1, h2, h3, h4, h5⟩ := hs
      have := h5.le
      exact ⟨h1, h2, fun t h6 h7 => (hg t h6 (by omega)).trans (h3 t h6 h7), h4, ih h5 fun t h6 h7 => hg t (by omega) h7⟩
/-- the first span -/
theorem Spans.one (hle : a ≤ b) (hg : ∀ t, a ≤ t → t ≤ b → g t = x.v) (hf : x.f = a) (ht : x.t = b) : Spans g a b [x] := ⟨hf, ht, hle, hg⟩
/-- the value goes on -/
theorem Spans.same (hs : Spans g a e (l ++ [x])) (hle : e ≤ e') (hg : ∀ t, e < t → t ≤ e' → g t = x.v) : Spans g a e' (l ++ [⟨x.f, e', x.v⟩]) := by
  induction l generalizing a with
  | nil => obtain ⟨h1, h2, h3, h4⟩ := hs; exact ⟨h1, rfl, by omega, fun t h5 h6 => by
      rcases Int.lt_or_le e t with h7 | h7
      · exact hg t h7 h6
      · exact h4 t h5 h7⟩
  | cons y l ih =>
    cases l with
    | nil => obtain ⟨h1, h2, h3, h4, h5⟩ := hs; exact ⟨h1, h2, h3, h4, ih h5⟩
    | cons z l => obtain ⟨h1, h2, h3, h4, h5⟩ := hs; exact ⟨h1, h2, h3, h4, ih h5⟩
/-- another value follows -/
theorem Spans.more (hs : Spans g a e (l ++ [x])) (hle : e < e') (hg : ∀ t, e < t → t ≤ e' → g t = y.v) (hf : y.f = e + 1) (ht : y.t = e') (hv : x.v ≠ y.v) : Spans g a e' (l ++ [x] ++ [y]) := by
  induction l generalizing a with
  | nil =>
    obtain ⟨h1, h2, h3, h4⟩ := hs
    exact ⟨h1, by omega, fun t h5 h6 => h4 t h5 (by omega), hv, by omega, ht, by omega, fun t h5 h6 => hg t (by omega) h6⟩
  | cons z l ih =>
    cases l with
    | nil => obtain ⟨h1, h2, h3, h4, h5⟩ := hs; exact ⟨h1, h2, h3, h4, ih h5⟩
    | cons u l => obtain ⟨h1, h2, h3, h4, h5⟩ := hs; exact ⟨h1, h2, h3, h4, ih h5⟩
theorem Spans.last (hs : Spans g a b (l ++ [x])) : x.t = b ∧ g b = x.v := by
  induction l generalizing a with
  | nil => obtain ⟨h1, h2, h3, h4⟩ := hs; exact ⟨h2, h4 b h3 (Int.le_refl _)⟩
  | cons y l ih =>
    cases l with
    | nil => obtain ⟨_, _, _, _, h5⟩ := hs; exact ih h5
    | cons z l => obtain ⟨_, _, _, _, h5⟩ := hs; exact ih h5
/-- each span: its place, its value -/
theorem Spans.mem (hs : Spans g a b l) (hx : x ∈ l) : a ≤ x.f ∧ x.f ≤ x.t ∧ x.t ≤ b ∧ ∀ t, x.f ≤ t → t ≤ x.t → g t = x.v := by
  induction l generalizing a with
  | nil => cases hx
  | cons y l ih =>
    obtain ⟨h1, h2, _, h4⟩ := hs.head
    have hle := hs.le
    rcases List.mem_cons.1 hx with rfl | hx
    · refine ⟨by omega, by omega, ?_, fun t h5 h6 => h4 t (by omega) h6⟩
      cases l with
      | nil => obtain ⟨_, h6, _⟩ := hs; omega
      | cons z l => obtain ⟨_, _, _, _, h5⟩ := hs; have := h5.le; omega
    · cases l with
      | nil => cases hx
      | cons z l =>
        obtain ⟨_, _, _, _, h5⟩ := hs
        obtain ⟨k1, k2, k3, k4⟩ := ih h5 hx
        exact ⟨by omega, k2, k3, k4⟩
/-- two neighbours -/
theorem Spans.next (hs : Spans g a b l) {i : Nat} (hi : l[i]? = some x) (hj : l[i + 1]? = some y) : y.f = x.t + 1 ∧ x.v ≠ y.v := by
  induction l generalizing a i with
  | nil => simp at hi
  | cons z l ih =>
    cases l with
    | nil => simp at hj
    | cons u l =>
      obtain ⟨_, _, _, h4, h5⟩ := hs
      cases i with
      | zero =>
        simp at hi hj
        subst hi hj
        exact ⟨h5.head.1, h4⟩
      | succ i => exact ih h5 (by simpa using hi) (by simpa using hj)
theorem Spans.first (hs : Spans g a b l) (hi : l[0]? = some x) : x.f = a ∧ g a = x.v := by
  cases l with
  | nil => simp at hi
  | cons z l => simp at hi; subst hi; exact ⟨hs.head.1, hs.head.2.2.1⟩
end

end Go.Proofs.YtbhcmnfeeogdhaaGreatDoor

/-
  Rows of several lists of spans: what they say, plain.
-/
namespace Go.Proofs.YtbhcmnfeeogdhaaGreatDoor

/-- the spans of a list that end before a time -/
def idx (l : List Spn) (t : Int) : Nat := (l.takeWhile fun x => decide (x.t < t)).length
theorem idx_le (l : List Spn) (t : Int) : idx l t ≤ l.length := by
  unfold idx
  exact (List.takeWhile_sublist _).length_le
theorem idx_cons (x : Spn) (l : List Spn) (t : Int) : idx (x :: l) t = if x.t < t then idx l t + 1 else 0 := by
  unfold idx
  rw [List.takeWhile_cons]
  by_cases h : x.t < t
  · rw [if_pos h, if_pos (decide_eq_true h)]; rfl
  · rw [if_neg h, if_neg (by simpa using h)]; rfl
theorem idx_mono {t u : Int} (h : t ≤ u) : ∀ l, idx l t ≤ idx l u
  | [] => Nat.le_refl _
  | x :: l => by
    rw [idx_cons, idx_cons]
    have := idx_mono h l
    by_cases h1 : x.t < t
    · rw [if_pos h1, if_pos (by omega)]; omega
    · rw [if_neg h1]; omega
/-- the one step of the search -/
theorem idx_step : ∀ {l : List Spn} {k : Nat} {x : Spn} {t : Int}, k ≤ idx l t → l[k]? = some x → (x.t < t ↔ k + 1 ≤ idx l t)
  | y :: l, 0, x, t, _, hx => by
    simp at hx
    subst hx
    rw [idx_cons]
    by_cases h : y.t < t
    · rw [if_pos h]; exact ⟨fun _ => by omega, fun _ => h⟩
    · rw [if_neg h]; exact ⟨fun h' => absurd h' h, fun h' => by omega⟩
  | y :: l, k + 1, x, t, hk, hx => by
    rw [idx_cons] at hk ⊢
    by_cases h : y.t < t
    · rw [if_pos h] at hk ⊢
      have := idx_step (l := l) (k := k) (x := x) (t := t) (by omega) (by simpa using hx)
      rw [this]; omega
    · rw [if_neg h] at hk; omega
theorem idx_first {g : Int → ByteArray} {a b : Int} {l : List Spn} (h : Spans g a b l) : idx l a = 0 := by
  cases l with
  | nil => rfl
  | cons x l => rw [idx_cons, if_neg (by have := h.head.2.1; omega)]
/-- the span of a time -/
theorem idx_at {g : Int → ByteArray} {a b t : Int} {l : List Spn} (h : Spans g a b l) (h1 : a ≤ t) (h2 : t ≤ b) : ∃ x, l[idx l t]? = some x ∧ x.f ≤ t ∧ t ≤ x.t ∧ x.t ≤ b ∧ (∀ u, t ≤ u → u ≤ x.t → g u = x.v) ∧ idx l t + 1 ≤ idx l (x.t + 1) := by
  induction l generalizing a with
  | nil => exact h.elim
  | cons x l ih =>
    obtain ⟨h3, h4, h5, h6⟩ := h.head
    rw [idx_cons]
    by_cases hx : x.t < t
    · rw [if_pos hx]
      cases l with
      | nil => obtain ⟨_, k, _⟩ := h; omega
      | cons y l =>
        obtain ⟨_, _, _, _, k⟩ := h
        obtain ⟨z, k1, k2, k3, k4, k5, k6⟩ := ih k (by omega)
        refine ⟨z, by simpa using k1, k2, k3, k4, k5, ?_⟩
        rw [idx_cons x, if_pos (by omega)]
        omega
    · rw [if_neg hx]
      refine ⟨x, rfl, by omega, by omega, (h.mem (x := x) (by simp)).2.2.1, fun u k1 k2 => h6 u (by omega) k2, ?_⟩
      rw [idx_cons, if_pos (by omega)]
      omega

structure Rw where
  f : Int
  t : Int
  vs : List ByteArray
/-- rows that cover [a, b) and hold the values of functions -/
def Cov (gs : List (Int → ByteArray)) : Int → Int → List Rw → Prop
  | a, b, [] => a = b
  | a, b, r :: rs => r.f = a ∧ a ≤ r.t ∧ (∀ u, a ≤ u → u ≤ r.t → r.vs = gs.map (· u)) ∧ Cov gs (r.t + 1) b rs
theorem Cov.snoc {gs : List (Int → ByteArray)} {a b : Int} {rs : List Rw} (h : Cov gs a b rs) {r : Rw} (h1 : r.f = b) (h2 : b ≤ r.t) (h3 : ∀ u, b ≤ u → u ≤ r.t → r.vs = gs.map (· u)) : Cov gs a (r.t + 1) (rs ++ [r]) := by
  induction rs generalizing a with
  | nil =>
    have : a = b := h
    subst this
    exact ⟨h1, h2, h3, rfl⟩
  | cons x rs ih =>
    obtain ⟨k1, k2, k3, k4⟩ := h
    exact ⟨k1, k2, k3, ih k4⟩
theorem Cov.le {gs : List (Int → ByteArray)} {a b : Int} {rs : List Rw} (h : Cov gs a b rs) : a ≤ b := by
  induction rs generalizing a with
  | nil => exact Int.le_of_eq h
  | cons x rs ih => obtain ⟨k1, k2, k3, k4⟩ := h; have := ih k4; omega

/-- lists over one range with their functions -/
def AllSp (a b : Int) : List (Int → ByteArray) → List (List Spn) → Prop
  | [], [] => True
  | g :: gs, l :: ls => Spans g a b l ∧ AllSp a b gs ls
  | _, _ => False
theorem AllSp.len {a b : Int} : ∀ {gs : List (Int → ByteArray)} {ls : List (List Spn)}, AllSp a b gs ls → gs.length = ls.length
  | [], [], _ => rfl
  | g :: gs, l :: ls, h => by have := AllSp.len h.2; simp [this]
theorem AllSp.snoc {a b : Int} {g : Int → ByteArray} {l : List Spn} (h1 : Spans g a b l) : ∀ {gs : List (Int → ByteArray)} {ls : List (List Spn)}, AllSp a b gs ls → AllSp a b (gs ++ [g]) (ls ++ [l])
  | [], [], _ => ⟨h1, trivial⟩
  | _ :: _, _ :: _, h => ⟨h.1, AllSp.snoc h1 h.2⟩
theorem AllSp.at {a b : Int} : ∀ {gs : List (Int → ByteArray)} {ls : List (List Spn)} {i : Nat} {l : List Spn}, AllSp a b gs ls → ls[i]? = some l → ∃ g, gs[i]? = some g ∧ Spans g a b l
  | [], [], _, _, _, hl => by simp at hl
  | g :: gs, l :: ls, 0, l', h, hl => by simp at hl; subst hl; exact ⟨g, rfl, h.1⟩
  | g :: gs, l :: ls, i + 1, l', h, hl => by
    obtain ⟨g', h1, h2⟩ := AllSp.at h.2 (i := i) (by simpa using hl)
    exact ⟨g', by simpa using h1, h2⟩

/-- the value of a list at a time, the end of its span -/
def valL (l : List Spn) (t : Int) : ByteArray := match l[idx l t]? with | some x => x.v | none => ⟨#[]⟩
def endL (l : List Spn) (t : Int) : Int := match l[idx l t]? with | some x => x.t | none => 0
def endLs (ls : List (List Spn)) (t b : Int) : Int := ls.foldl (fun e l => min e (endL l t)) b
theorem endLs_snoc (ls : List (List Spn)) (l : List Spn) (t b : Int) : endLs (ls ++ [l]) t b = min (endLs ls t b) (endL l t) := by unfold endLs; rw [List.foldl_append]; rfl
def cnt (ls : List (List Spn)) (t : Int) : Nat := (ls.map fun l => idx l t).sum
theorem cnt_mono {t u : Int} (h : t ≤ u) : ∀ ls, cnt ls t ≤ cnt ls u
  | [] => Nat.le_refl _
  | l :: ls => by
    have h1 := cnt_mono h ls
    have h2 := idx_mono h l
    unfold cnt at *
    simp only [List.map_cons, List.sum_cons]
    omega
theorem cnt_le (t : Int) : ∀ ls, cnt ls t ≤ (ls.map List.length).sum
  | [] => Nat.le_refl _
  | l :: ls => by
    have h1 := cnt_le t ls
    have h2 := idx_le l t
    unfold cnt at *
    simp only [List.map_cons, List.sum_cons]
    omega
/-- what a round brings -/
theorem row_at {a b t : Int} (h1 : a ≤ t) (h2 : t ≤ b) : ∀ {gs : List (Int → ByteArray)} {ls : List (List Spn)} (B : Int), AllSp a b gs ls → t ≤ B → B ≤ b →
    t ≤ endLs ls t B ∧ endLs ls t B ≤ B ∧ (∀ u, t ≤ u → u ≤ endLs ls t B → ls.map (valL · t) = gs.map (· u)) ∧ (endLs ls t B = B ∨ cnt ls t + 1 ≤ cnt ls (endLs ls t B + 1))
  | [], [], B, _, k1, k2 => ⟨k1, Int.le_refl _, fun _ _ _ => rfl, .inl rfl⟩
  | [], _ :: _, _, h, _, _ => h.elim
  | _ :: _, [], _, h, _, _ => h.elim
  | g :: gs, l :: ls, B, h, k1, k2 => by
    obtain ⟨x, e1, e2, e3, e4, e5, e6⟩ := idx_at h.1 h1 h2
    have hE : endL l t = x.t := by unfold endL; rw [e1]
    have hV : valL l t = x.v := by unfold valL; rw [e1]
    have hs : endLs (l :: ls) t B = endLs ls t (min B x.t) := by unfold endLs; rw [List.foldl_cons, hE]
    obtain ⟨c1, c2, c3, c4⟩ := row_at h1 h2 (min B x.t) h.2 (by omega) (by omega)
    rw [hs]
    refine ⟨c1, by omega, fun u u1 u2 => ?_, ?_⟩
    · rw [List.map_cons, List.map_cons, c3 u u1 u2, hV, e5 u u1 (by omega)]
    · have m1 := idx_mono (show t ≤ endLs ls t (min B x.t) + 1 by omega) l
      have m2 := cnt_mono (show t ≤ endLs ls t (min B x.t) + 1 by omega) ls
      have q : ∀ u, cnt (l :: ls) u = idx l u + cnt ls u := fun u => by unfold cnt; simp
      rw [q, q]
      rcases c4 with c4 | c4
      · rcases Int.lt_or_le x.t B with h5 | h5
        · right
          have h6 : endLs ls t (min B x.t) = x.t := by omega
          rw [h6] at m2 ⊢
          omega
        · left; omega
      · right; omega

/-- a row behind a list of spans -/
def spStep (out : List Spn) (a b : Int) (v : ByteArray) : List Spn := match out.getLast? with
  | none => [⟨a, b, v⟩]
  | some x => if x.v = v then out.dropLast ++ [⟨x.f, b, x.v⟩] else out ++ [⟨a, b, v⟩]
theorem spStep_snoc (l : List Spn) (x : Spn) (a b : Int) (v : ByteArray) : spStep (l ++ [x]) a b v = if x.v = v then l ++ [⟨x.f, b, x.v⟩] else l ++ [x] ++ [⟨a, b, v⟩] := by
  unfold spStep
  rw [List.getLast?_append]
  simp
def spL (F : List ByteArray → ByteArray) (rows : List Rw) : List Spn := rows.foldl (fun out r => spStep out r.f r.t (F r.vs)) []
theorem spL_snoc (F : List ByteArray → ByteArray) (rows : List Rw) (r : Rw) : spL F (rows ++ [r]) = spStep (spL F rows) r.f r.t (F r.vs) := by unfold spL; rw [List.foldl_append]; rfl
theorem spL_len (F : List ByteArray → ByteArray) (rows : List Rw) : (spL F rows).length ≤ rows.length := by
  suffices h : ∀ (m : Nat) (rows : List Rw), rows.length = m → (spL F rows).length ≤ rows.length from h _ rows rfl
  intro m
  induction m with
  | zero => intro rows h; rw [List.eq_nil_of_length_eq_zero h]; exact Nat.le_refl _
  | succ m ih =>
    intro rows h
    rcases List.eq_nil_or_concat rows with rfl | ⟨rs, r, rfl⟩
    · cases h
    · rw [List.concat_eq_append] at *
      rw [spL_snoc]
      have h1 := ih rs (by simpa using h)
      rcases List.eq_nil_or_concat (spL F rs) with h2 | ⟨l, x, h2⟩
      · rw [h2]; simp [spStep]
      · rw [List.concat_eq_append] at h2
        rw [h2, spStep_snoc]
        rw [h2] at h1
        simp only [List.length_append, List.length_cons, List.length_nil] at h1 ⊢
        split <;> simp <;> omega
theorem spL_spans {F : List ByteArray → ByteArray} {gs : List (Int → ByteArray)} {a b : Int} {rows : List Rw} (h : Cov gs a b rows) (hne : rows ≠ []) : Spans (fun u => F (gs.map (· u))) a (b - 1) (spL F rows) := by
  suffices H : ∀ (m : Nat) (rows : List Rw) (b : Int), rows.length = m → Cov gs a b rows → rows ≠ [] → Spans (fun u => F (gs.map (· u))) a (b - 1) (spL F rows) from H _ rows b rfl h hne
  intro m
  induction m with
  | zero => intro rows b h1 _ h2; exact absurd (List.eq_nil_of_length_eq_zero h1) h2
  | succ m ih =>
    intro rows b h1 h2 h3
    rcases List.eq_nil_or_concat rows with rfl | ⟨rs, r, rfl⟩
    · exact absurd rfl h3
    · rw [List.concat_eq_append] at *
      have key : ∀ {rs : List Rw} {a : Int}, Cov gs a b (rs ++ [r]) → Cov gs a r.f rs ∧ r.f ≤ r.t ∧ (∀ u, r.f ≤ u → u ≤ r.t → r.vs = gs.map (· u)) ∧ b = r.t + 1 := by
        intro rs
        induction rs with
        | nil => intro a h; obtain ⟨k1, k2, k3, k4⟩ := h; have k4 : r.t + 1 = b := k4; subst k1; exact ⟨rfl, k2, k3, k4.symm⟩
        | cons x rs ih => intro a h; obtain ⟨k1, k2, k3, k4⟩ := h; obtain ⟨j1, j2, j3, j4⟩ := ih k4; exact ⟨⟨k1, k2, k3, j1⟩, j2, j3, j4⟩
      obtain ⟨k1, k2, k3, k4⟩ := key h2
      have kb : b - 1 = r.t := by omega
      rw [spL_snoc, kb]
      have hg : ∀ u, r.f ≤ u → u ≤ r.t → F (gs.map (· u)) = F r.vs := fun u u1 u2 => by rw [k3 u u1 u2]
      rcases List.eq_nil_or_concat rs with rfl | ⟨rs', r', rfl⟩
      · have k1 : a = r.f := k1
        exact Spans.one (by omega) (fun u u1 u2 => hg u (by omega) u2) k1.symm rfl
      · rw [List.concat_eq_append] at *
        have h4 := ih _ r.f (by simpa using h1) k1 (by simp)
        rcases List.eq_nil_or_concat (spL F (rs' ++ [r'])) with h5 | ⟨l, x, h5⟩
        · rw [h5] at h4; exact h4.elim
        · rw [List.concat_eq_append] at h5
          rw [h5] at h4 ⊢
          rw [spStep_snoc]
          split
          · rename_i hv
            exact Spans.same (g := fun u => F (gs.map (· u))) h4 (by omega) fun u u1 u2 => (hg u (by omega) u2).trans hv.symm
          · rename_i hv
            exact Spans.more (g := fun u => F (gs.map (· u))) (y := ⟨r.f, r.t, F r.vs⟩) h4 (by omega) (fun u u1 u2 => hg u (by omega) u2) (by show r.f = _; omega) rfl hv

end Go.Proofs.YtbhcmnfeeogdhaaGreatDoor

/-
  Rows of whatever elements in memory; automata: their edges, final states and lists of trees.
-/
namespace Go.Proofs.YtbhcmnfeeogdhaaGreatDoor
open Go.RowKit

/-- a row of elements in blocks that P names -/
def Row {α : Type} (w : World) (P : Nat → Prop) (size : Nat) (cells : α → List Value) (A : Option Addr) (xs : List α) : Prop :=
  xs ≠ [] → ∃ b off, A = some ⟨b, off, none⟩ ∧ P b ∧ ∀ i x, xs[i]? = some x → ∀ j, j < size → w.cell? ⟨b, off + i * size + j, none⟩ = (cells x)[j]?

section
variable {α : Type} {w w' : World} {P P' : Nat → Prop} {size : Nat} {cells : α → List Value} {A : Option Addr} {xs : List α}
theorem Row.stay (h : Row w P size cells A xs) (hs : Stay P w w') : Row w' P size cells A xs := fun hx => by
  obtain ⟨b, off, e, hb, hc⟩ := h hx
  exact ⟨b, off, e, hb, fun i x hi j hj => (hs.cell hb).trans (hc i x hi j hj)⟩
theorem Row.more (h : Row w P size cells A xs) (hp : ∀ b, P b → P' b) : Row w P' size cells A xs := fun hx => by
  obtain ⟨b, off, e, hb, hc⟩ := h hx
  exact ⟨b, off, e, hp b hb, hc⟩
theorem Row.nil : Row w P size cells A ([] : List α) := fun h => absurd rfl h
theorem Row.at_ (h : Row w P size cells A xs) {k : Nat} (hk : k < xs.length) : ∃ b off, A = some ⟨b, off, none⟩ ∧ P b ∧ ∀ j, j < size → w.cell? ⟨b, off + k * size + j, none⟩ = (cells xs[k])[j]? := by
  obtain ⟨b, off, e, hb, hc⟩ := h (fun e => by subst e; simp at hk)
  exact ⟨b, off, e, hb, hc k _ (List.getElem?_eq_getElem hk)⟩
/-- below the heap's end, where the world has grown -/
theorem Row.grow (h : Row w (Lo w.heap.size) size cells A xs) (hb : Below w.heap.size w w') : Row w' (Lo w'.heap.size) size cells A xs :=
  (h.stay (stay_below hb fun _ h => h)).more fun _ hb' => Nat.lt_of_lt_of_le hb' hb.size
end

end Go.Proofs.YtbhcmnfeeogdhaaGreatDoor

/-
  Waves in memory, and the source that reads one: what its box holds.
-/
namespace Go.Proofs.YtbhcmnfeeogdhaaGreatDoor
open Go.RowKit

structure Chg where
  time : Int
  val : ByteArray
def cChg (c : Chg) : List Value := [.int .i64 c.time, .string c.val]
structure Sgn where
  kind : Int
  width : Int
  CA : Option Addr
  cc : Nat
  chs : List Chg
def cSgn (s : Sgn) : List Value := [.int .i64 s.kind, .int .i64 s.width, .slice s.CA s.chs.length s.cc]
/-- a list of signals with their changes -/
structure SigsAt (w : World) (P : Nat → Prop) (A : Option Addr) (l : List Sgn) : Prop where
  row : Row w P 3 cSgn A l
  each : ∀ s ∈ l, Row w P 2 cChg s.CA s.chs
theorem SigsAt.stay {w w' : World} {P : Nat → Prop} {A : Option Addr} {l : List Sgn} (h : SigsAt w P A l) (hs : Stay P w w') : SigsAt w' P A l := ⟨h.row.stay hs, fun s hm => (h.each s hm).stay hs⟩
theorem SigsAt.more {w : World} {P P' : Nat → Prop} {A : Option Addr} {l : List Sgn} (h : SigsAt w P A l) (hp : ∀ b, P b → P' b) : SigsAt w P' A l := ⟨h.row.more hp, fun s hm => (h.each s hm).more hp⟩
/-- a wave -/
structure Wv where
  A : Option Addr
  cA : Nat
  sigs : List Sgn
  G : Option Addr
  gn : Nat
  cG : Nat
  fin : Int
def cWv (v : Wv) : List Value := [.slice v.A v.sigs.length v.cA, .slice v.G v.gn v.cG, .int .i64 v.fin]
def memO (v : Wv) (L c : Int) : Obj := .cells #[.slice v.A v.sigs.length v.cA, .slice v.G v.gn v.cG, .int .i64 v.fin, .int .i64 L, .int .i64 c] 47 (0, 0)
/-- the source: its box M, the wave below, its limit, the calls so far -/
structure SourceAt (w : World) (M : Nat) (v : Wv) (L c : Int) : Prop where
  box : w.heap[M]? = some (memO v L c)
  sig : SigsAt w (Lo M) v.A v.sigs
def srcV (M : Nat) : Value := .iface 36 (.pointer (some ⟨M, 0, none⟩))
section
variable {w w' : World} {M : Nat} {v : Wv} {L c : Int}
theorem SourceAt.lt (h : SourceAt w M v L c) : M < w.heap.size := box_lt h.box
theorem SourceAt.cells (h : SourceAt w M v L c) : w.cell? ⟨M, 0, none⟩ = some (.slice v.A v.sigs.length v.cA) ∧ w.cell? ⟨M, 1, none⟩ = some (.slice v.G v.gn v.cG) ∧ w.cell? ⟨M, 2, none⟩ = some (.int .i64 v.fin) ∧ w.cell? ⟨M, 3, none⟩ = some (.int .i64 L) ∧ w.cell? ⟨M, 4, none⟩ = some (.int .i64 c) ∧ w.frozen? ⟨M, 4, none⟩ = false := by
  have hb := h.box
  unfold memO at hb
  exact ⟨by rw [cell_of_row w M _ _ _ (0, 0) hb]; rfl, by rw [cell_of_row w M _ _ _ (0, 0) hb]; rfl, by rw [cell_of_row w M _ _ _ (0, 0) hb]; rfl, by rw [cell_of_row w M _ _ _ (0, 0) hb]; rfl, by rw [cell_of_row w M _ _ _ (0, 0) hb]; rfl, by simp [World.frozen?, hb]⟩
theorem SourceAt.keep (h : SourceAt w M v L c) (hk : ∀ b, b ≤ M → w'.heap[b]? = w.heap[b]?) : SourceAt w' M v L c :=
  ⟨(hk M (Nat.le_refl _)).trans h.box, h.sig.stay fun b hb => hk b (Nat.le_of_lt hb)⟩
theorem SourceAt.below (h : SourceAt w M v L c) (hb : Below w.heap.size w w') : SourceAt w' M v L c := h.keep fun b hl => hb.block b (Nat.lt_of_le_of_lt hl h.lt)
theorem SourceAt.but (h : SourceAt w M v L c) {x : Nat} (hb : But w.heap.size (some x) w w') (hx : M < x) : SourceAt w' M v L c := h.keep fun b hl => hb.block b (Nat.lt_of_le_of_lt hl h.lt) (fun e => by injection e with e; omega)
theorem But.drawn {n : Nat} {x : Option Nat} {a w : World} (h : But n x a w) (q : Nat) : But n x a (w.drewN q) := ⟨h.os, h.tape, h.output, h.size, h.block⟩
theorem but_cell {w : World} {M j : Nat} {u : Value} {n : Nat} : But n (some M) w (w.setCell ⟨M, j, none⟩ u) :=
  ⟨rfl, rfl, rfl, by simp [World.setCell], fun b _ hx => by
    simp [World.setCell, Array.getElem?_modify]
    intro e; subst e; exact absurd rfl hx⟩
/-- a call counted -/
theorem SourceAt.count (h : SourceAt w M v L c) (c' : Int) : SourceAt (w.setCell ⟨M, 4, none⟩ (.int .i64 c')) M v L c' := by
  refine ⟨?_, h.sig.stay fun b hb => ?_⟩
  · have hb := h.box
    unfold memO at hb
    simp [World.setCell, Array.getElem?_modify, hb, memO]
  · have : b ≠ M := fun e => by subst e; exact Nat.lt_irrefl _ hb
    simp [World.setCell, Array.getElem?_modify]
    intro e; exact absurd e.symm this
end
/-- the world behind calls of the source: only the count has changed, and new blocks -/
def SrcTo (w : World) (M : Nat) (v : Wv) (L c : Int) (w' : World) : Prop := SourceAt w' M v L c ∧ But w.heap.size (some M) w w'
theorem SrcTo.trans {w w' w'' : World} {M : Nat} {v : Wv} {L c d : Int} (h : SrcTo w M v L c w') (h' : SrcTo w' M v L d w'') : SrcTo w M v L d w'' := ⟨h'.1, h.2.trans (h'.2.mono h.2.size)⟩
theorem SrcTo.below {w w' w'' : World} {M : Nat} {v : Wv} {L c : Int} (h : SrcTo w M v L c w') (hb : Below w'.heap.size w' w'') : SrcTo w M v L c w'' := ⟨h.1.below hb, h.2.trans ((But.of hb).mono h.2.size)⟩
theorem SrcTo.start {w : World} {M : Nat} {v : Wv} {L c : Int} (h : SourceAt w M v L c) {w' : World} (hb : Below w.heap.size w w') : SrcTo w M v L c w' := ⟨h.below hb, But.of hb⟩

end Go.Proofs.YtbhcmnfeeogdhaaGreatDoor

/-
  The source of wavestorelaw47: call, End, Kind.
-/
namespace Go.Proofs.YtbhcmnfeeogdhaaGreatDoor
open Go.RowKit

/-- the error of a call -/
def callC (L c x : Int) (n : Nat) : Int := if 0 ≤ L ∧ L < c + 1 then 14 else if x < 0 ∨ (n : Int) ≤ x then 2 else 0
set_option maxRecDepth 100000 in
set_option maxHeartbeats 1000000 in
theorem call_any (M : Nat) (v : Wv) (L c x : Int) (w : World) (h : SourceAt w M v L c) (h0 : 0 ≤ c) (h1 : c ≤ 1000000) :
    Calls Tryz.prog 324 #[.pointer (some ⟨M, 0, none⟩), .int .i64 x] w fun e w' => e = .returned (.int .i64 (callC L c x v.sigs.length)) ∧ SrcTo w M v L (c + 1) w' := by
  obtain ⟨a0, a1, a2, a3, a4, a5⟩ := h.cells
  have HS := hide (h.count (c + 1))
  have HB := hide (but_cell (w := w) (M := M) (j := 4) (u := .int .i64 (c + 1)) (n := w.heap.size))
  have HC := hide (show callC L c x v.sigs.length = if 0 ≤ L ∧ L < c + 1 then 14 else if x < 0 ∨ (v.sigs.length : Int) ≤ x then 2 else 0 from rfl)
  clear h
  go_enter Tryz.func324, Tryz.ntmps324
  go_upto_region 2 with (fail)
  generalize hW : World.setCell _ _ _ = W at HS HB ⊢
  clear hW a0 a1 a2 a3 a4 a5
  obtain ⟨a0, a1, a2, a3, a4, a5⟩ := HS.out.cells
  have HFin := hide (fun (q : Nat) => (show SrcTo w M v L (c + 1) (W.drewN q) from ⟨HS.out.below (below_drewN (Below.refl _ _) q), HB.out.drawn q⟩))
  by_cases hL : 0 ≤ L
  · have d1 : decide (0 ≤ L) = true := decide_eq_true hL
    by_cases hl : L < c + 1
    · have d2 : decide (L < c + 1) = true := decide_eq_true hl
      have HR := hide (show callC L c x v.sigs.length = 14 by rw [HC.out, if_pos ⟨hL, hl⟩])
      clear hL hl
      go_quiet (fail)
      go_wp2_with fail
      go_ret
      exact ⟨by rw [HR.out]; rfl, HFin.out _⟩
    · have d2 : decide (L < c + 1) = false := decide_eq_false hl
      have HR := hide (show callC L c x v.sigs.length = if x < 0 ∨ (v.sigs.length : Int) ≤ x then 2 else 0 by rw [HC.out, if_neg (fun h => hl h.2)])
      clear hL hl
      go_quiet (fail)
      by_cases hx : x < 0
      · have HR2 := hide (show callC L c x v.sigs.length = 2 by rw [HR.out, if_pos (.inl hx)])
        go_wp2_with fail
        go_ret
        exact ⟨by rw [HR2.out]; rfl, HFin.out _⟩
      · by_cases hn : (v.sigs.length : Int) ≤ x
        · have HR2 := hide (show callC L c x v.sigs.length = 2 by rw [HR.out, if_pos (.inr hn)])
          go_wp2_with fail
          go_ret
          exact ⟨by rw [HR2.out]; rfl, HFin.out _⟩
        · have HR2 := hide (show callC L c x v.sigs.length = 0 by rw [HR.out, if_neg (fun h => h.elim hx hn)])
          go_wp2_with fail
          go_ret
          exact ⟨by rw [HR2.out]; rfl, HFin.out _⟩
  · have d1 : decide (0 ≤ L) = false := decide_eq_false hL
    have HR := hide (show callC L c x v.sigs.length = if x < 0 ∨ (v.sigs.length : Int) ≤ x then 2 else 0 by rw [HC.out, if_neg (fun h => hL h.1)])
    clear hL
    go_quiet (fail)
    by_cases hx : x < 0
    · have HR2 := hide (show callC L c x v.sigs.length = 2 by rw [HR.out, if_pos (.inl hx)])
      go_wp2_with fail
      go_ret
      exact ⟨by rw [HR2.out]; rfl, HFin.out _⟩
    · by_cases hn : (v.sigs.length : Int) ≤ x
      · have HR2 := hide (show callC L c x v.sigs.length = 2 by rw [HR.out, if_pos (.inr hn)])
        go_wp2_with fail
        go_ret
        exact ⟨by rw [HR2.out]; rfl, HFin.out _⟩
      · have HR2 := hide (show callC L c x v.sigs.length = 0 by rw [HR.out, if_neg (fun h => h.elim hx hn)])
        go_wp2_with fail
        go_ret
        exact ⟨by rw [HR2.out]; rfl, HFin.out _⟩

set_option maxRecDepth 100000 in
theorem end_any (M : Nat) (v : Wv) (L c : Int) (w : World) (h : SourceAt w M v L c) : Calls Tryz.prog 319 #[.pointer (some ⟨M, 0, none⟩)] w fun e w' => e = .returned (.int .i64 v.fin) ∧ w = w' := by
  obtain ⟨a0, a1, a2, a3, a4, a5⟩ := h.cells
  clear h
  go_enter Tryz.func319, Tryz.ntmps319
  go_wp2_with fail
  go_ret
  exact ⟨rfl, rfl⟩

/-- what Kind answers -/
def kindV (L c x : Int) (v : Wv) : Value := if callC L c x v.sigs.length = 0 then (match v.sigs[x.toNat]? with | some s => .tuple #[.int .i64 s.kind, .int .i64 s.width, .int .i64 0] | none => .tuple #[.int .i64 0, .int .i64 0, .int .i64 0]) else .tuple #[.int .i64 0, .int .i64 0, .int .i64 (callC L c x v.sigs.length)]
theorem callC_ok {L c x : Int} {n : Nat} (h : callC L c x n = 0) : 0 ≤ x ∧ x < n := by
  unfold callC at h
  split at h
  · omega
  · split at h
    · omega
    · omega
set_option maxRecDepth 100000 in
set_option maxHeartbeats 1000000 in
theorem kind_any (M : Nat) (v : Wv) (L c x : Int) (w : World) (h : SourceAt w M v L c) (h0 : 0 ≤ c) (h1 : c ≤ 1000000) :
    Calls Tryz.prog 320 #[.pointer (some ⟨M, 0, none⟩), .int .i64 x] w fun e w' => e = .returned (kindV L c x v) ∧ SrcTo w M v L (c + 1) w' := by
  have HCA := hide (call_any M v L c x w h h0 h1)
  have HV := hide (show kindV L c x v = if callC L c x v.sigs.length = 0 then (match v.sigs[x.toNat]? with | some s => .tuple #[.int .i64 s.kind, .int .i64 s.width, .int .i64 0] | none => .tuple #[.int .i64 0, .int .i64 0, .int .i64 0]) else .tuple #[.int .i64 0, .int .i64 0, .int .i64 (callC L c x v.sigs.length)] from rfl)
  have HO := hide (fun h => callC_ok (L := L) (c := c) (x := x) (n := v.sigs.length) h)
  generalize callC L c x v.sigs.length = q at *
  clear h
  by_cases hq : q = 0
  · subst hq
    obtain ⟨x0, x1⟩ := HO.out rfl
    obtain ⟨k, rfl⟩ : ∃ k : Nat, x = k := ⟨x.toNat, by omega⟩
    have hk : k < v.sigs.length := by omega
    rw [if_pos rfl, Int.toNat_natCast, List.getElem?_eq_getElem hk] at HV
    go_enter Tryz.func320, Tryz.ntmps320
    go_wp2_with fail
    refine HCA.out.mono ?_
    rintro e w1 ⟨rfl, hs⟩
    obtain ⟨a0, a1, a2, a3, a4, a5⟩ := hs.1.cells
    obtain ⟨b, off, hA, hb, hc⟩ := hs.1.sig.row.at_ hk
    have HS := hide hs
    rw [hA] at a0
    generalize hsg : v.sigs[k] = sg at *
    obtain ⟨kk, ww, CA, cc, chs⟩ := sg
    have c0 := hc 0 (by omega)
    have c1 := hc 1 (by omega)
    have c2 := hc 2 (by omega)
    simp only [cSgn, List.getElem?_cons_zero, List.getElem?_cons_succ, Nat.add_zero] at c0 c1 c2
    have HA := hide hA

    clear hs hc hA hsg
    have hb2 : Below w1.heap.size w1 (w1.alloc (.cells #[.int .i64 kk, .int .i64 ww, .slice CA chs.length cc] 70)) := (Below.refl _ _).alloc (Nat.le_refl _) _
    have HS2 := hide (HS.out.below hb2)
    clear hb2
    go_upto_region 5 with (fail)
    go_quiet (fail)
    go_wp2_with fail
    go_ret3
    refine ⟨by rw [HV.out]; rfl, HS2.out.below (below_drewN (Below.refl _ _) _)⟩
  · have HV2 := hide (show kindV L c x v = .tuple #[.int .i64 0, .int .i64 0, .int .i64 q] by rw [HV.out, if_neg hq])
    have t1 : (q != 0) = true := bne_iff_ne.2 hq
    clear hq
    go_enter Tryz.func320, Tryz.ntmps320
    go_wp2_with fail
    refine HCA.out.mono ?_
    rintro e w1 ⟨rfl, hs⟩
    go_wp2_with fail
    go_ret3
    exact ⟨by rw [HV2.out]; rfl, hs⟩

end Go.Proofs.YtbhcmnfeeogdhaaGreatDoor

/-
  wavestoreref47.Initial and Value.
-/
namespace Go.Proofs.YtbhcmnfeeogdhaaGreatDoor
open Go.RowKit

/-- the value of a signal before its first change -/
def initL (kind width : Int) : List UInt8 := if kind = 1 then [48] else if kind = 0 then List.replicate width.toNat 120 else []
def initB (s : Sgn) : List UInt8 := initL s.kind s.width
def foldV (t : Int) (cs : List Chg) (v : ByteArray) : ByteArray := cs.foldl (fun v c => if c.time ≤ t then c.val else v) v
/-- the value of a signal at a time -/
def valS (s : Sgn) (t : Int) : ByteArray := if s.kind = 3 then bs (initB s) else foldV t s.chs (bs (initB s))
theorem foldV_take (t : Int) {cs : List Chg} {k : Nat} (hk : k < cs.length) (v : ByteArray) : foldV t (cs.take (k + 1)) v = if cs[k].time ≤ t then cs[k].val else foldV t (cs.take k) v := by
  rw [List.take_succ_eq_append_getElem hk]
  unfold foldV
  rw [List.foldl_append]
  rfl

def InRel (k : Int) (v i : Value) : Prop := ∃ j : Nat, (j : Int) ≤ max k 0 ∧ i = .int .i64 (j : Int) ∧ v = .string (bs (List.replicate j 120))
theorem rep_snoc_x (j : Nat) : bs (List.replicate j 120) ++ bs [120] = bs (List.replicate (j + 1) 120) := by rw [bs_app, List.replicate_succ']
set_option maxRecDepth 100000 in
theorem initial_any (kind width : Int) (CA : Option Addr) (n cc : Nat) (w : World) (hw : kind = 0 → width ≤ 1000) :
    Calls Tryz.prog 59 #[.agg #[.int .i64 kind, .int .i64 width, .slice CA n cc]] w fun e w' => e = .returned (.string (bs (initL kind width))) ∧ Below w.heap.size w w' := by
  by_cases k1 : kind = 1
  · subst k1
    clear hw
    go_enter Tryz.func59, Tryz.ntmps59
    go_wp2_with fail
    go_ret
    exact ⟨rfl, (Below.refl _ _).alloc (Nat.le_refl _) _⟩
  · have t1 : (kind == 1) = false := beq_eq_false_iff_ne.2 k1
    by_cases k0 : kind = 0
    · subst k0
      have hwd := hw rfl
      clear hw k1
      go_enter Tryz.func59, Tryz.ntmps59
      go_wp2_with fail
      go_loop [3, 4] (fun v i => InRel width v i) (fun _ i => width.toNat - (intOf i).toNat)
      case atStart => exact ⟨0, by omega, rfl, rfl⟩
      case round =>
        obtain ⟨j, hj, rfl, rfl⟩ := hrel
        have hsz : (bs (List.replicate j 120)).size = j := by rw [bs_size, List.length_replicate]
        by_cases hlt : (j : Int) < width
        · have HT := hide (rep_snoc_x j)
          go_wp2_with fail
          refine ⟨⟨j + 1, by omega, by go_num, by rw [← HT.out]; rfl⟩, by simp [intOf]; omega⟩
        · have hje : width.toNat = j := by omega
          have HJ := hide (show initL 0 width = List.replicate j 120 by rw [← hje]; rfl)
          clear hje
          go_wp2_with fail
          go_ret
          exact ⟨by rw [HJ.out]; rfl, (Below.refl _ _).alloc (Nat.le_refl _) _⟩
    · have t0 : (kind == 0) = false := beq_eq_false_iff_ne.2 k0
      have HV := hide (show initL kind width = [] by unfold initL; rw [if_neg k1, if_neg k0])
      clear hw k0 k1
      go_enter Tryz.func59, Tryz.ntmps59
      go_wp2_with fail
      go_ret
      exact ⟨by rw [HV.out]; rfl, (Below.refl _ _).alloc (Nat.le_refl _) _⟩

def RvRel (t : Int) (cs : List Chg) (v0 : ByteArray) (v i : Value) : Prop := ∃ j : Nat, j ≤ cs.length ∧ i = .int .i64 (j : Int) ∧ v = .string (foldV t (cs.take j) v0)
set_option maxRecDepth 100000 in
set_option maxHeartbeats 1000000 in
theorem rvalue_any (s : Sgn) (t : Int) (w : World) (hw : s.kind = 0 → s.width ≤ 1000) (hl : s.chs.length ≤ 1000) (hr : Row w (Lo w.heap.size) 2 cChg s.CA s.chs) :
    Calls Tryz.prog 92 #[.agg #[.int .i64 s.kind, .int .i64 s.width, .slice s.CA s.chs.length s.cc], .int .i64 t] w fun e w' => e = .returned (.string (valS s t)) ∧ Below w.heap.size w w' := by
  obtain ⟨kind, width, CA, cc, chs⟩ := s
  dsimp only at *
  have HI := hide (fun W => initial_any kind width CA chs.length cc W hw)
  have HVS := hide (show valS ⟨kind, width, CA, cc, chs⟩ t = if kind = 3 then bs (initL kind width) else foldV t chs (bs (initL kind width)) from rfl)
  generalize initL kind width = l0 at *
  have HR := hide hr
  clear hw hr
  go_enter Tryz.func92, Tryz.ntmps92
  go_wp2_with fail
  have hbx := heap_alloc_new w (.cells #[.int .i64 kind, .int .i64 width, .slice CA chs.length cc] 70)
  refine (HI.out _).mono ?_
  rintro e w1 ⟨rfl, b1⟩
  have hx1 := box_below b1 hbx
  have HB1 := hide (bstep ((Below.refl _ _).alloc (Nat.le_refl _) _) b1)
  have HR1 := hide (HR.out.grow HB1.out)
  have z0 : w1.cell? ⟨w.heap.size, 0, none⟩ = some (.int .i64 kind) := by rw [cell_of_row w1 _ _ _ _ (0, 0) hx1]; rfl
  have z2 : w1.cell? ⟨w.heap.size, 2, none⟩ = some (.slice CA chs.length cc) := by rw [cell_of_row w1 _ _ _ _ (0, 0) hx1]; rfl
  clear b1 hbx hx1
  by_cases k3 : kind = 3
  · have t3 : (kind != 3) = false := by rw [k3]; rfl
    rw [if_pos k3] at HVS
    clear k3
    go_wp2_with fail
    go_loop [5, 6] (fun v i => v = .string (bs l0) ∧ i = .int .i64 0) (fun _ _ => 0)
    case atStart => exact ⟨rfl, rfl⟩
    case round =>
      obtain ⟨rfl, rfl⟩ := hrel
      by_cases hl0 : 0 < chs.length
      · go_wp2_with fail
        go_ret
        exact ⟨by rw [HVS.out]; rfl, HB1.out⟩
      · go_wp2_with fail
        go_ret
        exact ⟨by rw [HVS.out]; rfl, HB1.out⟩
  · have t3 : (kind != 3) = true := bne_iff_ne.2 k3
    rw [if_neg k3] at HVS
    clear k3
    go_wp2_with fail
    go_loop [5, 6] (fun v i => RvRel t chs (bs l0) v i) (fun _ i => chs.length - (intOf i).toNat)
    case atStart => exact ⟨0, Nat.zero_le _, rfl, rfl⟩
    case round =>
      obtain ⟨j, hj, rfl, rfl⟩ := hrel
      by_cases hlt : j < chs.length
      · obtain ⟨b, off, hA, hlo, hc⟩ := HR1.out.at_ hlt
        have HT := hide (foldV_take t hlt (bs l0))
        rw [hA] at z2
        have c0 := hc 0 (by omega)
        have c1 := hc 1 (by omega)
        generalize chs[j] = cg at *
        obtain ⟨ct, cv⟩ := cg
        simp only [cChg, List.getElem?_cons_zero, List.getElem?_cons_succ, Nat.add_zero] at c0 c1
        have HA := hide hA
        clear hc hA
        by_cases hle : ct ≤ t
        · have HT2 := hide (show foldV t (chs.take (j + 1)) (bs l0) = cv by rw [HT.out, if_pos hle])
          go_wp2_with fail
          exact ⟨⟨j + 1, hlt, by go_num, by rw [HT2.out]⟩, by simp [intOf]; omega⟩
        · have HT2 := hide (show foldV t (chs.take (j + 1)) (bs l0) = foldV t (chs.take j) (bs l0) by rw [HT.out, if_neg hle])
          go_wp2_with fail
          exact ⟨⟨j + 1, hlt, by go_num, by rw [HT2.out]⟩, by simp [intOf]; omega⟩
      · have hje : j = chs.length := by omega
        have HE := hide (show foldV t (chs.take j) (bs l0) = foldV t chs (bs l0) by rw [hje, List.take_length])
        clear hje
        go_wp2_with fail
        go_ret
        exact ⟨by rw [HVS.out, ← HE.out]; rfl, HB1.out⟩

end Go.Proofs.YtbhcmnfeeogdhaaGreatDoor
