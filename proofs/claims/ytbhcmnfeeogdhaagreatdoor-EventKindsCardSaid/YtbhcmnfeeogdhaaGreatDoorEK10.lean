/-
  Several texts in one: Arr, ZipP, ZipM, QuietB. Each says at its head what it holds.
-/
import Derived.Test.YtbhcmnfeeogdhaaGreatDoorEK7
import Derived.Test.YtbhcmnfeeogdhaaGreatDoorEK2
import Derived.OwnWalk
import Derived.Test.YtbhcmnfeeogdhaaGreatDoorEK3
import Derived.Test.YtbhcmnfeeogdhaaGreatDoorEK4
import Derived.Test.YtbhcmnfeeogdhaaGreatDoorEK8
import Derived.Deep.DeepCutAuto
import Derived.Deep.QuietTactic
import Derived.BigQuiet
import Derived.IntWalk

/-
  Blocks that hold a list of ints or of bools, made by make and written cell by cell.
-/
namespace Go.Proofs.YtbhcmnfeeogdhaaGreatDoor
open Go.RowKit

def ArI (w : World) (g : Nat) (xs : List Int) : Prop := w.heap[g]? = some (.cells (xs.map (Value.int .i64)).toArray 3 (0, 0))
section
variable {w w' : World} {g g' k : Nat} {v : Value}
theorem ArI.lt {xs : List Int} (h : ArI w g xs) : g < w.heap.size := box_lt h
theorem ArI.cell {xs : List Int} (h : ArI w g xs) {x : Int} (hk : xs[k]? = some x) : w.cell? ⟨g, k, none⟩ = some (.int .i64 x) := by
  rw [cell_of_row w g k _ _ (0, 0) h]
  simp [hk]
theorem ArI.froz {xs : List Int} (h : ArI w g xs) : w.frozen? ⟨g, k, none⟩ = false := by unfold ArI at h; simp [World.frozen?, h]
theorem ArI.set {xs : List Int} (h : ArI w g xs) (x : Int) : ArI (w.setCell ⟨g, k, none⟩ (.int .i64 x)) g (xs.set k x) := by
  unfold ArI at *
  simp [World.setCell, Array.getElem?_modify, h, List.map_set]
theorem ArI.other {xs : List Int} (h : ArI w g xs) (hne : g ≠ g') : ArI (w.setCell ⟨g', k, none⟩ v) g xs := (Below.heap_setCell _ _ _ _ hne).trans h
theorem ArI.below {xs : List Int} (h : ArI w g xs) (hb : Below w.heap.size w w') : ArI w' g xs := (hb.block g h.lt).trans h
theorem made_list (z : Value) (n : Nat) : (madeCells #[z] n).toList = List.replicate n z := by
  refine List.ext_getElem (by simp [madeCells]) fun i h1 h2 => ?_
  simp [madeCells, Nat.mod_one]
theorem ArI.made {B n : Nat} (h : w.ownsRow B 3 1 (.slice (some ⟨g, 0, none⟩) n n) n (madeCells #[.int .i64 0] n).toList) : ArI w g (List.replicate n 0) := by
  rw [made_list] at h
  rcases h.2 with ⟨h2, _⟩ | ⟨g', cap, cur, h2, _, h4, _, _, h7, h8⟩
  · cases h2
  · injection h2 with h2 _ h3
    injection h2 with h2
    injection h2 with h2
    subst h2 h3
    have : cur.toList = List.replicate n (.int .i64 0) := by rw [← h8, List.take_of_length_le (by simp [h7])]
    unfold ArI
    rw [h4, List.map_replicate, ← this]
end

section
variable {w w' : World} {gl gm gk i : Nat} {ls ms : List Int} {ks : List Bool}
end

end Go.Proofs.YtbhcmnfeeogdhaaGreatDoor

/-
  Rows of several lists of spans: what they say, plain.
-/
namespace Go.Proofs.YtbhcmnfeeogdhaaGreatDoor

/-- the spans of a list that end before a time -/
def idx (l : List Spn) (t : Int) : Nat := (l.takeWhile fun x => decide (x.t < t)).length
theorem idx_le (l : List Spn) (t : Int) : idx l t ≤ l.length := by
  unfold idx
  exact (List.takeWhile_sublist _).length_le
theorem idx_cons (x : Spn) (l : List Spn) (t : Int) : idx (x :: l) t = if x.t < t then idx l t + 1 else 0 := by
  unfold idx
  rw [List.takeWhile_cons]
  by_cases h : x.t < t
  · rw [if_pos h, if_pos (decide_eq_true h)]; rfl
  · rw [if_neg h, if_neg (by simpa using h)]; rfl
theorem idx_mono {t u : Int} (h : t ≤ u) : ∀ l, idx l t ≤ idx l u
  | [] => Nat.le_refl _
  | x :: l => by
    rw [idx_cons, idx_cons]
    have := idx_mono h l
    by_cases h1 : x.t < t
    · rw [if_pos h1, if_pos (by omega)]; omega
    · rw [if_neg h1]; omega
/-- the one step of the search -/
theorem idx_step : ∀ {l : List Spn} {k : Nat} {x : Spn} {t : Int}, k ≤ idx l t → l[k]? = some x → (x.t < t ↔ k + 1 ≤ idx l t)
  | y :: l, 0, x, t, _, hx => by
    simp at hx
    subst hx
    rw [idx_cons]
    by_cases h : y.t < t
    · rw [if_pos h]; exact ⟨fun _ => by omega, fun _ => h⟩
    · rw [if_neg h]; exact ⟨fun h' => absurd h' h, fun h' => by omega⟩
  | y :: l, k + 1, x, t, hk, hx => by
    rw [idx_cons] at hk ⊢
    by_cases h : y.t < t
    · rw [if_pos h] at hk ⊢
      have := idx_step (l := l) (k := k) (x := x) (t := t) (by omega) (by simpa using hx)
      rw [this]; omega
    · rw [if_neg h] at hk; omega
theorem idx_first {g : Int → ByteArray} {a b : Int} {l : List Spn} (h : Spans g a b l) : idx l a = 0 := by
  cases l with
  | nil => rfl
  | cons x l => rw [idx_cons, if_neg (by have := h.head.2.1; omega)]
/-- the span of a time -/
theorem idx_at {g : Int → ByteArray} {a b t : Int} {l : List Spn} (h : Spans g a b l) (h1 : a ≤ t) (h2 : t ≤ b) : ∃ x, l[idx l t]? = some x ∧ x.f ≤ t ∧ t ≤ x.t ∧ x.t ≤ b ∧ (∀ u, t ≤ u → u ≤ x.t → g u = x.v) ∧ idx l t + 1 ≤ idx l (x.t + 1) := by
  induction l generalizing a with
  | nil => exact h.elim
  | cons x l ih =>
    obtain ⟨h3, h4, h5, h6⟩ := h.head
    rw [idx_cons]
    by_cases hx : x.t < t
    · rw [if_pos hx]
      cases l with
      | nil => obtain ⟨_, k, _⟩ := h; omega
      | cons y l =>
        obtain ⟨_, _, _, _, k⟩ := h
        obtain ⟨z, k1, k2, k3, k4, k5, k6⟩ := ih k (by omega)
        refine ⟨z, by simpa using k1, k2, k3, k4, k5, ?_⟩
        rw [idx_cons x, if_pos (by omega)]
        omega
    · rw [if_neg hx]
      refine ⟨x, rfl, by omega, by omega, (h.mem (x := x) (by simp)).2.2.1, fun u k1 k2 => h6 u (by omega) k2, ?_⟩
      rw [idx_cons, if_pos (by omega)]
      omega

structure Rw where
  f : Int
  t : Int
  vs : List ByteArray
/-- rows that cover [a, b) and hold the values of functions -/
def Cov (gs : List (Int → ByteArray)) : Int → Int → List Rw → Prop
  | a, b, [] => a = b
  | a, b, r :: rs => r.f = a ∧ a ≤ r.t ∧ (∀ u, a ≤ u → u ≤ r.t → r.vs = gs.map (· u)) ∧ Cov gs (r.t + 1) b rs
theorem Cov.snoc {gs : List (Int → ByteArray)} {a b : Int} {rs : List Rw} (h : Cov gs a b rs) {r : Rw} (h1 : r.f = b) (h2 : b ≤ r.t) (h3 : ∀ u, b ≤ u → u ≤ r.t → r.vs = gs.map (· u)) : Cov gs a (r.t + 1) (rs ++ [r]) := by
  induction rs generalizing a with
  | nil =>
    have : a = b := h
    subst this
    exact ⟨h1, h2, h3, rfl⟩
  | cons x rs ih =>
    obtain ⟨k1, k2, k3, k4⟩ := h
    exact ⟨k1, k2, k3, ih k4⟩
theorem Cov.le {gs : List (Int → ByteArray)} {a b : Int} {rs : List Rw} (h : Cov gs a b rs) : a ≤ b := by
  induction rs generalizing a with
  | nil => exact Int.le_of_eq h
  | cons x rs ih => obtain ⟨k1, k2, k3, k4⟩ := h; have := ih k4; omega

/-- lists over one range with their functions -/
def AllSp (a b : Int) : List (Int → ByteArray) → List (List Spn) → Prop
  | [], [] => True
  | g :: gs, l :: ls => Spans g a b l ∧ AllSp a b gs ls
  | _, _ => False
theorem AllSp.len {a b : Int} : ∀ {gs : List (Int → ByteArray)} {ls : List (List Spn)}, AllSp a b gs ls → gs.length = ls.length
  | [], [], _ => rfl
  | g :: gs, l :: ls, h => by have := AllSp.len h.2; simp [this]
theorem AllSp.snoc {a b : Int} {g : Int → ByteArray} {l : List Spn} (h1 : Spans g a b l) : ∀ {gs : List (Int → ByteArray)} {ls : List (List Spn)}, AllSp a b gs ls → AllSp a b (gs ++ [g]) (ls ++ [l])
  | [], [], _ => ⟨h1, trivial⟩
  | _ :: _, _ :: _, h => ⟨h.1, AllSp.snoc h1 h.2⟩
theorem AllSp.at {a b : Int} : ∀ {gs : List (Int → ByteArray)} {ls : List (List Spn)} {i : Nat} {l : List Spn}, AllSp a b gs ls → ls[i]? = some l → ∃ g, gs[i]? = some g ∧ Spans g a b l
  | [], [], _, _, _, hl => by simp at hl
  | g :: gs, l :: ls, 0, l', h, hl => by simp at hl; subst hl; exact ⟨g, rfl, h.1⟩
  | g :: gs, l :: ls, i + 1, l', h, hl => by
    obtain ⟨g', h1, h2⟩ := AllSp.at h.2 (i := i) (by simpa using hl)
    exact ⟨g', by simpa using h1, h2⟩

/-- the value of a list at a time, the end of its span -/
def valL (l : List Spn) (t : Int) : ByteArray := match l[idx l t]? with | some x => x.v | none => ⟨#[]⟩
def endL (l : List Spn) (t : Int) : Int := match l[idx l t]? with | some x => x.t | none => 0
def endLs (ls : List (List Spn)) (t b : Int) : Int := ls.foldl (fun e l => min e (endL l t)) b
theorem endLs_snoc (ls : List (List Spn)) (l : List Spn) (t b : Int) : endLs (ls ++ [l]) t b = min (endLs ls t b) (endL l t) := by unfold endLs; rw [List.foldl_append]; rfl
def cnt (ls : List (List Spn)) (t : Int) : Nat := (ls.map fun l => idx l t).sum
theorem cnt_mono {t u : Int} (h : t ≤ u) : ∀ ls, cnt ls t ≤ cnt ls u
  | [] => Nat.le_refl _
  | l :: ls => by
    have h1 := cnt_mono h ls
    have h2 := idx_mono h l
    unfold cnt at *
    simp only [List.map_cons, List.sum_cons]
    omega
theorem cnt_le (t : Int) : ∀ ls, cnt ls t ≤ (ls.map List.length).sum
  | [] => Nat.le_refl _
  | l :: ls => by
    have h1 := cnt_le t ls
    have h2 := idx_le l t
    unfold cnt at *
    simp only [List.map_cons, List.sum_cons]
    omega
/-- what a round brings -/
theorem row_at {a b t : Int} (h1 : a ≤ t) (h2 : t ≤ b) : ∀ {gs : List (Int → ByteArray)} {ls : List (List Spn)} (B : Int), AllSp a b gs ls → t ≤ B → B ≤ b →
    t ≤ endLs ls t B ∧ endLs ls t B ≤ B ∧ (∀ u, t ≤ u → u ≤ endLs ls t B → ls.map (valL · t) = gs.map (· u)) ∧ (endLs ls t B = B ∨ cnt ls t + 1 ≤ cnt ls (endLs ls t B + 1))
  | [], [], B, _, k1, k2 => ⟨k1, Int.le_refl _, fun _ _ _ => rfl, .inl rfl⟩
  | [], _ :: _, _, h, _, _ => h.elim
  | _ :: _, [], _, h, _, _ => h.elim
  | g :: gs, l :: ls, B, h, k1, k2 => by
    obtain ⟨x, e1, e2, e3, e4, e5, e6⟩ := idx_at h.1 h1 h2
    have hE : endL l t = x.t := by unfold endL; rw [e1]
    have hV : valL l t = x.v := by unfold valL; rw [e1]
    have hs : endLs (l :: ls) t B = endLs ls t (min B x.t) := by unfold endLs; rw [List.foldl_cons, hE]
    obtain ⟨c1, c2, c3, c4⟩ := row_at h1 h2 (min B x.t) h.2 (by omega) (by omega)
    rw [hs]
    refine ⟨c1, by omega, fun u u1 u2 => ?_, ?_⟩
    · rw [List.map_cons, List.map_cons, c3 u u1 u2, hV, e5 u u1 (by omega)]
    · have m1 := idx_mono (show t ≤ endLs ls t (min B x.t) + 1 by omega) l
      have m2 := cnt_mono (show t ≤ endLs ls t (min B x.t) + 1 by omega) ls
      have q : ∀ u, cnt (l :: ls) u = idx l u + cnt ls u := fun u => by unfold cnt; simp
      rw [q, q]
      rcases c4 with c4 | c4
      · rcases Int.lt_or_le x.t B with h5 | h5
        · right
          have h6 : endLs ls t (min B x.t) = x.t := by omega
          rw [h6] at m2 ⊢
          omega
        · left; omega
      · right; omega

/-- a row behind a list of spans -/
def spStep (out : List Spn) (a b : Int) (v : ByteArray) : List Spn := match out.getLast? with
  | none => [⟨a, b, v⟩]
  | some x => if x.v = v then out.dropLast ++ [⟨x.f, b, x.v⟩] else out ++ [⟨a, b, v⟩]
theorem spStep_snoc (l : List Spn) (x : Spn) (a b : Int) (v : ByteArray) : spStep (l ++ [x]) a b v = if x.v = v then l ++ [⟨x.f, b, x.v⟩] else l ++ [x] ++ [⟨a, b, v⟩] := by
  unfold spStep
  rw [List.getLast?_append]
  simp
def spL (F : List ByteArray → ByteArray) (rows : List Rw) : List Spn := rows.foldl (fun out r => spStep out r.f r.t (F r.vs)) []
theorem spL_snoc (F : List ByteArray → ByteArray) (rows : List Rw) (r : Rw) : spL F (rows ++ [r]) = spStep (spL F rows) r.f r.t (F r.vs) := by unfold spL; rw [List.foldl_append]; rfl
theorem spL_len (F : List ByteArray → ByteArray) (rows : List Rw) : (spL F rows).length ≤ rows.length := by
  suffices h : ∀ (m : Nat) (rows : List Rw), rows.length = m → (spL F rows).length ≤ rows.length from h _ rows rfl
  intro m
  induction m with
  | zero => intro rows h; rw [List.eq_nil_of_length_eq_zero h]; exact Nat.le_refl _
  | succ m ih =>
    intro rows h
    rcases List.eq_nil_or_concat rows with rfl | ⟨rs, r, rfl⟩
    · cases h
    · rw [List.concat_eq_append] at *
      rw [spL_snoc]
      have h1 := ih rs (by simpa using h)
      rcases List.eq_nil_or_concat (spL F rs) with h2 | ⟨l, x, h2⟩
      · rw [h2]; simp [spStep]
      · rw [List.concat_eq_append] at h2
        rw [h2, spStep_snoc]
        rw [h2] at h1
        simp only [List.length_append, List.length_cons, List.length_nil] at h1 ⊢
        split <;> simp <;> omega
theorem spL_spans {F : List ByteArray → ByteArray} {gs : List (Int → ByteArray)} {a b : Int} {rows : List Rw} (h : Cov gs a b rows) (hne : rows ≠ []) : Spans (fun u => F (gs.map (· u))) a (b - 1) (spL F rows) := by
  suffices H : ∀ (m : Nat) (rows : List Rw) (b : Int), rows.length = m → Cov gs a b rows → rows ≠ [] → Spans (fun u => F (gs.map (· u))) a (b - 1) (spL F rows) from H _ rows b rfl h hne
  intro m
  induction m with
  | zero => intro rows b h1 _ h2; exact absurd (List.eq_nil_of_length_eq_zero h1) h2
  | succ m ih =>
    intro rows b h1 h2 h3
    rcases List.eq_nil_or_concat rows with rfl | ⟨rs, r, rfl⟩
    · exact absurd rfl h3
    · rw [List.concat_eq_append] at *
      have key : ∀ {rs : List Rw} {a : Int}, Cov gs a b (rs ++ [r]) → Cov gs a r.f rs ∧ r.f ≤ r.t ∧ (∀ u, r.f ≤ u → u ≤ r.t → r.vs = gs.map (· u)) ∧ b = r.t + 1 := by
        intro rs
        induction rs with
        | nil => intro a h; obtain ⟨k1, k2, k3, k4⟩ := h; have k4 : r.t + 1 = b := k4; subst k1; exact ⟨rfl, k2, k3, k4.symm⟩
        | cons x rs ih => intro a h; obtain ⟨k1, k2, k3, k4⟩ := h; obtain ⟨j1, j2, j3, j4⟩ := ih k4; exact ⟨⟨k1, k2, k3, j1⟩, j2, j3, j4⟩
      obtain ⟨k1, k2, k3, k4⟩ := key h2
      have kb : b - 1 = r.t := by omega
      rw [spL_snoc, kb]
      have hg : ∀ u, r.f ≤ u → u ≤ r.t → F (gs.map (· u)) = F r.vs := fun u u1 u2 => by rw [k3 u u1 u2]
      rcases List.eq_nil_or_concat rs with rfl | ⟨rs', r', rfl⟩
      · have k1 : a = r.f := k1
        exact Spans.one (by omega) (fun u u1 u2 => hg u (by omega) u2) k1.symm rfl
      · rw [List.concat_eq_append] at *
        have h4 := ih _ r.f (by simpa using h1) k1 (by simp)
        rcases List.eq_nil_or_concat (spL F (rs' ++ [r'])) with h5 | ⟨l, x, h5⟩
        · rw [h5] at h4; exact h4.elim
        · rw [List.concat_eq_append] at h5
          rw [h5] at h4 ⊢
          rw [spStep_snoc]
          split
          · rename_i hv
            exact Spans.same (g := fun u => F (gs.map (· u))) h4 (by omega) fun u u1 u2 => (hg u (by omega) u2).trans hv.symm
          · rename_i hv
            exact Spans.more (g := fun u => F (gs.map (· u))) (y := ⟨r.f, r.t, F r.vs⟩) h4 (by omega) (fun u u1 u2 => hg u (by omega) u2) (by show r.f = _; omega) rfl hv

end Go.Proofs.YtbhcmnfeeogdhaaGreatDoor

/-
  runs.Zip in memory: the lists that it reads, the rows that it makes, a round's state.
-/
namespace Go.Proofs.YtbhcmnfeeogdhaaGreatDoor
open Go.RowKit

theorem Spans.ends {g : Int → ByteArray} {a b : Int} {l : List Spn} (hs : Spans g a b l) : ∃ x0 x1, l[0]? = some x0 ∧ x0.f = a ∧ l[l.length - 1]? = some x1 ∧ x1.t = b := by
  have hlp := List.length_pos_iff.2 hs.ne
  have h0 : l[0]? = some l[0] := List.getElem?_eq_getElem hlp
  rcases List.eq_nil_or_concat l with h | ⟨m, x, h⟩
  · exact absurd h hs.ne
  · rw [List.concat_eq_append] at h
    refine ⟨_, x, h0, (hs.first h0).1, ?_, ?_⟩
    · rw [h]; simp
    · rw [h] at hs; exact hs.last.1
/-- lists of spans in memory -/
structure LsAt (w : World) (P : Nat → Prop) (A : Option Addr) (ls : List SpL) : Prop where
  row : Row w P 1 (fun s => [celSp s]) A ls
  each : ∀ s ∈ ls, Row w P 3 encSp s.A s.l
theorem LsAt.stay {w w' : World} {P : Nat → Prop} {A : Option Addr} {ls : List SpL} (h : LsAt w P A ls) (hs : Stay P w w') : LsAt w' P A ls := ⟨h.row.stay hs, fun s hm => (h.each s hm).stay hs⟩
theorem LsAt.grow {w w' : World} {A : Option Addr} {ls : List SpL} (h : LsAt w (Lo w.heap.size) A ls) (hb : Below w.heap.size w w') : LsAt w' (Lo w'.heap.size) A ls :=
  ⟨h.row.grow hb, fun s hm => (h.each s hm).grow hb⟩
theorem LsAt.list {w : World} {P : Nat → Prop} {A : Option Addr} {ls : List SpL} (h : LsAt w P A ls) {j : Nat} (hj : j < ls.length) : ∃ b o, A = some ⟨b, o, none⟩ ∧ w.cell? ⟨b, o + j, none⟩ = some (celSp ls[j]) := by
  obtain ⟨b, o, e, _, hc⟩ := h.row.at_ hj
  have := hc 0 (by omega)
  rw [Nat.mul_one, Nat.add_zero] at this
  exact ⟨b, o, e, this⟩
/-- the ends of a list -/
theorem LsAt.ends {w : World} {P : Nat → Prop} {A : Option Addr} {ls : List SpL} (h : LsAt w P A ls) {s : SpL} (hs : s ∈ ls) {g : Int → ByteArray} {f t : Int} (hsp : Spans g f t s.l) :
    ∃ b o, s.A = some ⟨b, o, none⟩ ∧ P b ∧ w.cell? ⟨b, o, none⟩ = some (.int .i64 f) ∧ w.cell? ⟨b, o + (s.l.length - 1) * 3 + 1, none⟩ = some (.int .i64 t) ∧ ∀ i x, s.l[i]? = some x → SpAt w b (o + i * 3) x := by
  obtain ⟨b, o, e, hb, hc⟩ := (h.each s hs).sp_at hsp.ne
  obtain ⟨x0, x1, h0, h1, h2, h3⟩ := hsp.ends
  have k0 := (hc 0 x0 h0).1
  have k1 := (hc _ x1 h2).2.1
  rw [h1, Nat.zero_mul, Nat.add_zero] at k0
  rw [h3] at k1
  exact ⟨b, o, e, hb, k0, k1, hc⟩

structure RwM where
  f : Int
  t : Int
  VA : Option Addr
  vc : Nat
  vs : List ByteArray
def RwM.rw (r : RwM) : Rw := ⟨r.f, r.t, r.vs⟩
def encRw (r : RwM) : List Value := [.int .i64 r.f, .int .i64 r.t, .slice r.VA r.vs.length r.vc]
def encRws (l : List RwM) : List Value := l.flatMap encRw
theorem encRws_app (l m : List RwM) : encRws (l ++ m) = encRws l ++ encRws m := by simp [encRws]
theorem infoRw : (Tryz.prog.info? 142).map (fun i => (i.zero, i.size, i.bytes)) = some (some (.agg #[.int .i64 0, .int .i64 0, .slice none 0 0]), 3, 40) := by kernel_rfl
theorem rw_one (r : RwM) : ∀ u ∈ encRw r, u.oneCell' = true := by
  intro u hu
  simp only [encRw, List.mem_cons, List.not_mem_nil, or_false] at hu
  rcases hu with rfl | rfl | rfl <;> rfl
/-- rows that the call itself has made -/
def OwnRw (w : World) (base : Nat) (A : Option Addr) (c : Nat) (l : List RwM) : Prop := w.ownsRow base 142 3 (.slice A l.length c) l.length (encRws l)
theorem OwnRw.nil (w : World) (base : Nat) : OwnRw w base none 0 [] := World.ownsRow_nil w base _ 3
theorem OwnRw.of_row {w : World} {base : Nat} {v : Value} {n : Nat} {vs : List Value} {l : List RwM} (h : w.ownsRow base 142 3 v n vs) (hn : n = l.length) (hv : vs = encRws l) : ∃ A c, v = .slice A l.length c ∧ OwnRw w base A c l := by
  subst hn hv
  rcases Joins.ownsRow_forms h with ⟨rfl, h0⟩ | ⟨g, cap, rfl⟩
  · exact ⟨none, 0, by rw [h0], by unfold OwnRw; rw [h0] at h ⊢; exact h⟩
  · exact ⟨_, cap, rfl, h⟩
/-- rows with their values, read -/
structure RwsAt (w : World) (P : Nat → Prop) (A : Option Addr) (l : List RwM) : Prop where
  row : Row w P 3 encRw A l
  each : ∀ r ∈ l, StrsAt w P r.VA r.vs
theorem OwnRw.row {w : World} {base c : Nat} {A : Option Addr} {l : List RwM} (h : OwnRw w base A c l) : Row w (fun b => base ≤ b ∧ b < w.heap.size) 3 encRw A l := fun hne => by
  obtain ⟨g, rfl, h1⟩ := own_place h (List.length_pos_iff.2 hne)
  have h2 := own_ob h g rfl
  refine ⟨g, 0, rfl, ⟨h2.1, h2.2⟩, fun i x hi j hj => ?_⟩
  have hlt := (List.getElem?_eq_some_iff.1 hi).1
  rw [Nat.zero_add, World.ownsRow.cellAt h _ (by omega)]
  exact flat_at encRw 3 (fun _ => rfl) hi hj

/-- between rounds: the places, the rows so far -/
structure ZM (w : World) (G : Nat) (at_ : List Int) (A : Option Addr) (c : Nat) (rows : List RwM) (W : World) : Prop where
  bel : Below w.heap.size w W
  gl : w.heap.size ≤ G
  ar : ArI W G at_
  own : OwnRw W w.heap.size A c rows
  vals : ∀ r ∈ rows, OwnStr W w.heap.size r.VA r.vc r.vs
/-- inside of a round, whose row lies in the block behind V0's -/
structure ZR (V0 : World) (G : Nat) (at_ : List Int) (f e : Int) (VA : Option Addr) (vc : Nat) (vs : List ByteArray) (W : World) : Prop where
  but : But V0.heap.size (some G) V0 W
  ar : ArI W G at_
  box : W.heap[V0.heap.size]? = some (.cells #[.int .i64 f, .int .i64 e, .slice VA vs.length vc] 142 (0, 0))
  own : OwnStr W (V0.heap.size + 1) VA vc vs
section
variable {w V0 W W' : World} {G c vc : Nat} {at_ : List Int} {A VA : Option Addr} {rows : List RwM} {f e : Int} {vs : List ByteArray}
theorem own_ne_type {W : World} {base size n m : Nat} {e e' : TypeId} {A : Option Addr} {c : Nat} {xs : List Value} (h : W.ownsRow base e size (.slice A n c) m xs) (hm : m = n) {b : Nat} {cs : Array Value} (hb : W.heap[b]? = some (.cells cs e' (0, 0))) (hne : e' ≠ e) : ob A ≠ some b := fun h1 => by
  subst hm
  obtain ⟨cs', h2⟩ := own_cellsT h h1
  rw [hb] at h2
  injection h2 with h2
  injection h2 with _ h2
  exact hne h2
theorem ZM.noG (h : ZM w G at_ A c rows W) : ob A ≠ some G := own_ne_type h.own rfl h.ar (by decide)
theorem ZM.noGv (h : ZM w G at_ A c rows W) {r : RwM} (hr : r ∈ rows) : ob r.VA ≠ some G := own_ne_type (h.vals r hr) rfl h.ar (by decide)
theorem ZR.start (h : ZM w G at_ A c rows W) {f e : Int} {o : Obj} (ho : o = .cells #[.int .i64 f, .int .i64 e, .slice none 0 0] 142) : ZR W G at_ f e none 0 [] (W.alloc o) := by
  subst ho
  have hb : Below W.heap.size W (W.alloc (.cells #[.int .i64 f, .int .i64 e, .slice none 0 0] 142)) := (Below.refl _ _).alloc (Nat.le_refl _) _
  exact ⟨But.of hb, h.ar.below hb, heap_alloc_new W _, OwnStr.nil _ _⟩
theorem ZR.draw (h : ZR V0 G at_ f e VA vc vs W) : ZR V0 G at_ f e VA vc vs W.drew := ⟨⟨h.but.os, h.but.tape, h.but.output, h.but.size, h.but.block⟩, h.ar, h.box, h.own⟩
theorem ZR.noG (h : ZR V0 G at_ f e VA vc vs W) : ob VA ≠ some G := own_ne_type h.own rfl h.ar (by decide)
theorem ZR.noN (h : ZR V0 G at_ f e VA vc vs W) : ob VA ≠ some V0.heap.size := fun h1 => by have := (own_ob h.own _ h1).1; omega
theorem ZR.setAt (h : ZR V0 G at_ f e VA vc vs W) (hG : G < V0.heap.size) (j : Nat) (x : Int) : ZR V0 G (at_.set j x) f e VA vc vs (W.setCell ⟨G, j, none⟩ (.int .i64 x)) := by
  refine ⟨h.but.trans (but_cell (n := V0.heap.size)), h.ar.set x, (set_cell_other (by omega)).trans h.box, own_block h.own fun g hg => set_cell_other (fun e => h.noG (by rw [hg, e]))⟩
theorem ZR.setTo (h : ZR V0 G at_ f e VA vc vs W) (hG : G < V0.heap.size) (e' : Int) : ZR V0 G at_ f e' VA vc vs (W.setCell ⟨V0.heap.size, 1, none⟩ (.int .i64 e')) := by
  refine ⟨⟨h.but.os, h.but.tape, h.but.output, by simp [World.setCell]; exact h.but.size, fun b hb hn => (set_cell_other (by omega)).trans (h.but.block b hb hn)⟩, h.ar.other (by omega), ?_, own_block h.own fun g hg => set_cell_other (fun e => h.noN (by rw [hg, e]))⟩
  simp [World.setCell, Array.getElem?_modify, h.box]
/-- behind the append of a value and its store -/
theorem ZR.push (h : ZR V0 G at_ f e VA vc vs W) (hG : G < V0.heap.size) {v : ByteArray} {W1 W3 : World} (hW1 : W1 = W.alloc (.cells #[.string v] 9)) (hg : W1.grownBy W3 (ob VA)) {VA' : Option Addr} {vc' : Nat} (ho : OwnStr W3 (V0.heap.size + 1) VA' vc' (vs ++ [v])) :
    W3.heap[V0.heap.size]? = some (.cells #[.int .i64 f, .int .i64 e, .slice VA vs.length vc] 142 (0, 0)) ∧ ZR V0 G at_ f e VA' vc' (vs ++ [v]) (W3.setCell ⟨V0.heap.size, 2, none⟩ (.slice VA' (vs ++ [v]).length vc')) := by
  have hN := box_lt h.box
  have hGl := h.ar.lt
  have old : ∀ b, b < W.heap.size → ob VA ≠ some b → W3.heap[b]? = W.heap[b]? := fun b h1 h2 => by
    rw [hg.block b (by rw [hW1]; simp; omega) (fun e => h2 e.symm), hW1, Below.heap_alloc _ _ _ h1]
  have hbx : W3.heap[V0.heap.size]? = some (.cells #[.int .i64 f, .int .i64 e, .slice VA vs.length vc] 142 (0, 0)) := (old _ hN h.noN).trans h.box
  have har : ArI W3 G at_ := (old _ hGl h.noG).trans h.ar
  have hnb : ob VA' ≠ some V0.heap.size := fun h1 => by have := (own_ob ho _ h1).1; omega
  refine ⟨hbx, ⟨hg.os.trans ?_, hg.tape.trans ?_, hg.output.trans ?_, ?_, fun b hb hn => ?_⟩, har.other (by omega), ?_, own_block ho fun g hg' => set_cell_other (fun e => hnb (by rw [hg', e]))⟩
  · rw [hW1]; exact h.but.os
  · rw [hW1]; exact h.but.tape
  · rw [hW1]; exact h.but.output
  · have h1 := hg.size
    have h2 := h.but.size
    rw [hW1] at h1
    simp [World.setCell] at h1 ⊢
    omega
  · rw [set_cell_other (by omega), old b (by omega) (fun h1 => by have := (own_ob h.own _ h1).1; omega)]
    exact h.but.block b hb hn
  · simp [World.setCell, Array.getElem?_modify, hbx]
/-- the round is over -/
theorem ZM.round (h : ZM w G at_ A c rows V0) {at2 : List Int} (hr : ZR V0 G at2 f e VA vc vs W) : ZM w G at2 A c rows W ∧ OwnStr W w.heap.size VA vc vs ∧ (∀ g, ob A = some g → ob VA ≠ some g) := by
  have hle := h.bel.size
  have hGl := h.ar.lt
  refine ⟨⟨⟨hr.but.os.trans h.bel.os, hr.but.tape.trans h.bel.tape, hr.but.output.trans h.bel.output, Nat.le_trans hle hr.but.size, fun b hb => (hr.but.block b (by omega) (fun e => by injection e with e; have := h.gl; omega)).trans (h.bel.block b hb)⟩, h.gl, hr.ar,
    own_block h.own fun g hg => hr.but.block g (own_ob h.own g hg).2 (fun e => h.noG (by rw [hg, e])), fun r hm => own_block (h.vals r hm) fun g hg => hr.but.block g (own_ob (h.vals r hm) g hg).2 (fun e => h.noGv hm (by rw [hg, e]))⟩, Joins.ownsRow_le hr.own (by omega), fun g hg hv => ?_⟩
  have h1 := (own_ob h.own g hg).2
  have h2 := (own_ob hr.own g hv).1
  omega
/-- behind the append of the round's row -/
theorem ZM.push (h : ZM w G at_ A c rows W) {r : RwM} (hv : OwnStr W w.heap.size r.VA r.vc r.vs) (hn : ∀ g, ob A = some g → ob r.VA ≠ some g) {W1 W3 : World} (hW1 : W1 = W.alloc (.cells (encRw r).toArray 142)) (hg : W1.grownBy W3 (ob A)) {A' : Option Addr} {c' : Nat} (ho : OwnRw W3 w.heap.size A' c' (rows ++ [r])) :
    ZM w G at_ A' c' (rows ++ [r]) W3 := by
  have hle := h.bel.size
  have old : ∀ b, b < W.heap.size → ob A ≠ some b → W3.heap[b]? = W.heap[b]? := fun b h1 h2 => by
    rw [hg.block b (by rw [hW1]; simp; omega) (fun e => h2 e.symm), hW1, Below.heap_alloc _ _ _ h1]
  refine ⟨⟨hg.os.trans ?_, hg.tape.trans ?_, hg.output.trans ?_, ?_, fun b hb => ?_⟩, h.gl, (old _ h.ar.lt h.noG).trans h.ar, ho, fun q hq => ?_⟩
  · rw [hW1]; exact h.bel.os
  · rw [hW1]; exact h.bel.tape
  · rw [hW1]; exact h.bel.output
  · have h1 := hg.size
    rw [hW1] at h1
    simp at h1
    omega
  · rw [old b (by omega) (fun h1 => by have := (own_ob h.own _ h1).1; omega)]
    exact h.bel.block b hb
  · rcases List.mem_append.1 hq with hq | hq
    · refine own_block (h.vals q hq) fun g hg' => old g (own_ob (h.vals q hq) g hg').2 (fun h1 => ?_)
      obtain ⟨cs, h2⟩ := own_cellsT h.own h1
      exact own_ne_type (h.vals q hq) rfl h2 (by decide) hg'
    · simp at hq
      subst hq
      exact own_block hv fun g hg' => old g (own_ob hv g hg').2 (fun h1 => hn g h1 hg')
end

end Go.Proofs.YtbhcmnfeeogdhaaGreatDoor

/-
  A region that draws its order, whose operations read and whose callees only make memory: one walk in the order of the text.
-/
namespace Go.Proofs.YtbhcmnfeeogdhaaGreatDoor
open Go.RowKit

/-- worlds that have grown out of one -/
abbrev Gr (W0 : World) := {x : World // Below W0.heap.size W0 x}
theorem region_grown {P : Program} {id : Nat} {Q : Exit → Act → World → Prop} {a : Act} {w W0 : World} {l : List Oper} (hm : P.follows .mixedOrders = true) (hB : Region.lexB .any l.toArray = true) (hb : Below W0.heap.size W0 w)
    (h : wpQuiet P l.toArray (fun w' => ∃ u : Gr W0, w' = u.val) (fun a' => ∀ w', (∃ u : Gr W0, w' = u.val) → Q .normal a' w') l a) : (Code.region id l.toArray true).wp P Q a w :=
  wp_region_quiet (C := fun w' => ∃ u : Gr W0, w' = u.val) hm hB ⟨⟨_, below_drew hb⟩, rfl⟩ (by simpa using h)
theorem Calls.grown {P : Program} {f : FuncId} {args : Array Value} {W0 : World} {u : Gr W0} {v : Value} (h : Calls P f args u.val fun e w' => e = .returned v ∧ Below u.val.heap.size u.val w') : Calls P f args u.val fun e w'' => e = .returned v ∧ ∃ u' : Gr W0, w'' = u'.val :=
  h.mono fun _ w' ⟨he, hw⟩ => ⟨he, ⟨w', bstep u.2 hw⟩, rfl⟩
theorem Gr.cell {W0 : World} {a : Addr} {v : Value} (h : W0.cell? a = some v) (u : Gr W0) : u.val.cell? a = some v := cell_later u.2 h

end Go.Proofs.YtbhcmnfeeogdhaaGreatDoor
