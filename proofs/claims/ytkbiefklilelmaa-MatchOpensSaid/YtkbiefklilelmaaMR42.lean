/-
  Several texts in one: RReachS. Each says at its head what it holds.
-/
import Derived.Test.YtkbiefklilelmaaMR27
import Derived.Test.YtkbiefklilelmaaMR22
import Derived.Test.YtkbiefklilelmaaMR37
import Derived.Test.YtkbiefklilelmaaMR41
import Derived.Maps.AppendAt

/-
  wavestoreref55.reach: its words: a list of lists of times, one for each state, and what it holds after so many edges.
-/
namespace Go.Proofs.Ytkbiefklilelmaa
open Go.RowKit

theorem nodup_len : ∀ (n : Nat) (l : List Int), l.Nodup → (∀ t ∈ l, 0 ≤ t ∧ t < (n : Int)) → l.length ≤ n
  | 0, l, _, h => by
    cases l with
    | nil => simp
    | cons x xs => have := h x (by simp); omega
  | n + 1, l, hd, h => by
    by_cases hm : (n : Int) ∈ l
    · have h1 := nodup_len n (l.erase n) (hd.erase _) (fun t ht => by
        have h2 := (List.Nodup.mem_erase_iff hd).1 ht
        have h3 := h t h2.2
        omega)
      have h4 := List.length_erase_of_mem hm
      omega
    · have := nodup_len n l hd (fun t ht => by
        have h3 := h t ht
        have : t ≠ n := fun e => hm (e ▸ ht)
        omega)
      omega

/-- the sets of times of the states -/
structure RcP (P : Int → Int → Prop) (os : List SlI) : Prop where
  nd : ∀ (s : Nat) (o : SlI), os[s]? = some o → o.xs.Nodup
  mem : ∀ (s : Nat) (o : SlI), os[s]? = some o → ∀ t, t ∈ o.xs ↔ P (s : Int) t
theorem RcP.congr {P P' : Int → Int → Prop} {os : List SlI} (h : RcP P os) (hp : ∀ s t, P s t ↔ P' s t) : RcP P' os := ⟨h.nd, fun s o ho t => (h.mem s o ho t).trans (hp _ t)⟩
theorem RcP.set {P P' : Int → Int → Prop} {os : List SlI} {k : Nat} {o : SlI} (h : RcP P os) (hnd : o.xs.Nodup) (ho : ∀ t, t ∈ o.xs ↔ P' (k : Int) t) (hoth : ∀ s t, s ≠ (k : Int) → (P s t ↔ P' s t)) : RcP P' (os.set k o) := by
  have key : ∀ (s : Nat) (o' : SlI), (os.set k o)[s]? = some o' → (s = k ∧ o' = o) ∨ (s ≠ k ∧ os[s]? = some o') := fun s o' hs => by
    rw [List.getElem?_set] at hs
    by_cases e : k = s
    · rw [if_pos e] at hs
      split at hs
      · injection hs with hs; exact .inl ⟨e.symm, hs.symm⟩
      · cases hs
    · rw [if_neg e] at hs; exact .inr ⟨fun e' => e e'.symm, hs⟩
  refine ⟨fun s o' hs => ?_, fun s o' hs t => ?_⟩
  · rcases key s o' hs with ⟨_, rfl⟩ | ⟨_, h1⟩
    · exact hnd
    · exact h.nd s o' h1
  · rcases key s o' hs with ⟨rfl, rfl⟩ | ⟨h0, h1⟩
    · exact ho t
    · exact (h.mem s o' h1 t).trans (hoth _ t (by omega))
theorem RcP.add {P P' : Int → Int → Prop} {os : List SlI} {k : Nat} {o o' : SlI} {v : Int} (h : RcP P os) (hk : os[k]? = some o) (hv : v ∉ o.xs) (hx : o'.xs = o.xs ++ [v]) (hp : ∀ s t, P' s t ↔ P s t ∨ (s = (k : Int) ∧ t = v)) : RcP P' (os.set k o') := by
  refine h.set ?_ (fun t => ?_) (fun s t hs => ?_)
  · rw [hx, List.nodup_append]
    exact ⟨h.nd k o hk, by simp, fun a ha b hb e => by rw [List.mem_singleton.1 hb] at e; rw [e] at ha; exact hv ha⟩
  · rw [hx, List.mem_append, List.mem_singleton, hp, h.mem k o hk]
    exact or_congr_right ⟨fun e => ⟨rfl, e⟩, fun e => e.2⟩
  · rw [hp]
    exact ⟨.inl, fun h => h.elim id fun h => absurd h.1 hs⟩
theorem RcP.one {P P' : Int → Int → Prop} {os : List SlI} {k : Nat} {o' : SlI} {v : Int} (h : RcP P os) (hv : ∀ t, P (k : Int) t → t = v) (hx : o'.xs = [v]) (hp : ∀ s t, P' s t ↔ P s t ∨ (s = (k : Int) ∧ t = v)) : RcP P' (os.set k o') := by
  refine h.set (by rw [hx]; simp) (fun t => ?_) (fun s t hs => ?_)
  · rw [hx, List.mem_singleton, hp]
    exact ⟨fun e => .inr ⟨rfl, e⟩, fun e => e.elim (hv t) (fun e => e.2)⟩
  · rw [hp]
    exact ⟨.inl, fun h => h.elim id fun h => absurd h.1 hs⟩
theorem RcP.len {P : Int → Int → Prop} {os : List SlI} (h : RcP P os) (hP : ∀ s t, P s t → 0 ≤ t ∧ t ≤ 1099511627776) {k : Nat} {o : SlI} (hk : os[k]? = some o) : o.xs.length ≤ 1099511627777 :=
  nodup_len 1099511627777 o.xs (h.nd k o hk) fun t ht => by have := hP _ t ((h.mem k o hk t).1 ht); omega

section
variable {x : Inp} {st en : Int} {i k j : Nat} {e : Edg} {us l : List Int}
/-- in the midst of an edge: so many begins have been taken, of the next one so many times -/
def PJ (x : Inp) (st en : Int) (i : Nat) (e : Edg) (us : List Int) (k : Nat) (l : List Int) (j : Nat) (s t : Int) : Prop :=
  Rk x st en i s t ∨ (s = e.to_ ∧ ((∃ u ∈ us.take k, GoesW x en e u t) ∨ ∃ u, us[k]? = some u ∧ t ∈ l.take j ∧ GoesW x en e u t))
theorem PJ.zero (s t : Int) : Rk x st en i s t ↔ PJ x st en i e us 0 l 0 s t := ⟨.inl, fun h => h.elim id fun ⟨_, h⟩ => by rcases h with ⟨u, hu, _⟩ | ⟨u, _, hu, _⟩ <;> simp at hu⟩
theorem PJ.hit {u v : Int} (hu : us[k]? = some u) (hv : l[j]? = some v) (hg : GoesW x en e u v) (s t : Int) : PJ x st en i e us k l (j + 1) s t ↔ PJ x st en i e us k l j s t ∨ (s = e.to_ ∧ t = v) := by
  obtain ⟨hl, rfl⟩ := List.getElem?_eq_some_iff.1 hv
  have et : l.take (j + 1) = l.take j ++ [l[j]] := by simp
  unfold PJ
  rw [et]
  constructor
  · rintro (h | ⟨h1, h2 | ⟨u', h3, h4, h5⟩⟩)
    · exact .inl (.inl h)
    · exact .inl (.inr ⟨h1, .inl h2⟩)
    · rcases List.mem_append.1 h4 with h4 | h4
      · exact .inl (.inr ⟨h1, .inr ⟨u', h3, h4, h5⟩⟩)
      · exact .inr ⟨h1, List.mem_singleton.1 h4⟩
  · rintro ((h | ⟨h1, h2 | ⟨u', h3, h4, h5⟩⟩) | ⟨h1, rfl⟩)
    · exact .inl h
    · exact .inr ⟨h1, .inl h2⟩
    · exact .inr ⟨h1, .inr ⟨u', h3, List.mem_append_left _ h4, h5⟩⟩
    · exact .inr ⟨h1, .inr ⟨u, hu, List.mem_append_right _ (List.mem_singleton.2 rfl), hg⟩⟩
theorem PJ.miss {u v : Int} (hu : us[k]? = some u) (hv : l[j]? = some v) (hg : ¬ GoesW x en e u v ∨ PJ x st en i e us k l j e.to_ v) (s t : Int) : PJ x st en i e us k l j s t ↔ PJ x st en i e us k l (j + 1) s t := by
  obtain ⟨hl, rfl⟩ := List.getElem?_eq_some_iff.1 hv
  have et : l.take (j + 1) = l.take j ++ [l[j]] := by simp
  constructor
  · rintro (h | ⟨h1, h2 | ⟨u', h3, h4, h5⟩⟩)
    · exact .inl h
    · exact .inr ⟨h1, .inl h2⟩
    · exact .inr ⟨h1, .inr ⟨u', h3, by rw [et]; exact List.mem_append_left _ h4, h5⟩⟩
  · rintro (h | ⟨h1, h2 | ⟨u', h3, h4, h5⟩⟩)
    · exact .inl h
    · exact .inr ⟨h1, .inl h2⟩
    · rw [et] at h4
      rcases List.mem_append.1 h4 with h4 | h4
      · exact .inr ⟨h1, .inr ⟨u', h3, h4, h5⟩⟩
      · have h4 := List.mem_singleton.1 h4
        rw [hu] at h3
        injection h3 with h3
        subst h1 h3 h4
        rcases hg with hg | hg
        · exact absurd h5 hg
        · exact hg
theorem PJ.row {u : Int} (hu : us[k]? = some u) (hl : nth x.ev e.event = l) (s t : Int) : PJ x st en i e us k l l.length s t ↔ PJ x st en i e us (k + 1) l 0 s t := by
  obtain ⟨hk, rfl⟩ := List.getElem?_eq_some_iff.1 hu
  have et : us.take (k + 1) = us.take k ++ [us[k]] := by simp
  unfold PJ
  rw [et, List.take_length]
  constructor
  · rintro (h | ⟨h1, ⟨u, h2, h3⟩ | ⟨u', h3, h4, h5⟩⟩)
    · exact .inl h
    · exact .inr ⟨h1, .inl ⟨u, List.mem_append_left _ h2, h3⟩⟩
    · rw [hu] at h3
      injection h3 with h3
      subst h3
      exact .inr ⟨h1, .inl ⟨_, List.mem_append_right _ (List.mem_singleton.2 rfl), h5⟩⟩
  · rintro (h | ⟨h1, ⟨u, h2, h3⟩ | ⟨u', h3, h4, h5⟩⟩)
    · exact .inl h
    · rcases List.mem_append.1 h2 with h2 | h2
      · exact .inr ⟨h1, .inl ⟨u, h2, h3⟩⟩
      · rw [List.mem_singleton.1 h2] at h3
        exact .inr ⟨h1, .inr ⟨_, hu, by rw [← hl]; exact h3.1, h3⟩⟩
    · simp at h4
theorem PJ.done (he : x.edges[i]? = some e) (h0 : e.from_ ≠ 0) (hus : ∀ t, t ∈ us ↔ Rk x st en i e.from_ t) (s t : Int) : PJ x st en i e us us.length l 0 s t ↔ Rk x st en (i + 1) s t := by
  unfold PJ
  rw [List.take_length]
  constructor
  · rintro (h | ⟨h1, ⟨u, h2, h3⟩ | ⟨u', h3, h4, h5⟩⟩)
    · exact .inl h
    · exact .inr ⟨e, he, h1, .inr ⟨h0, u, (hus u).1 h2, h3⟩⟩
    · simp at h4
  · rintro (h | ⟨e', he', h1, h2⟩)
    · exact .inl h
    · rw [he] at he'
      injection he' with he'
      subst he'
      rcases h2 with ⟨h2, _⟩ | ⟨_, u, h3, h4⟩
      · exact absurd h2 h0
      · exact .inr ⟨h1, .inl ⟨u, (hus u).2 h3, h4⟩⟩
/-- a first edge whose event is at the start -/
theorem Rk.from0 (he : x.edges[i]? = some e) (h0 : e.from_ = 0) (hs : st ∈ nth x.ev e.event) (s t : Int) : Rk x st en (i + 1) s t ↔ Rk x st en i s t ∨ (s = e.to_ ∧ t = st) := by
  constructor
  · rintro (h | ⟨e', he', h1, h2⟩)
    · exact .inl h
    · rw [he] at he'
      injection he' with he'
      subst he'
      rcases h2 with ⟨_, h3, _⟩ | ⟨h3, _⟩
      · exact .inr ⟨h1, h3⟩
      · exact absurd h0 h3
  · rintro (h | ⟨h1, h2⟩)
    · exact .inl h
    · exact .inr ⟨e, he, h1, .inl ⟨h0, h2, hs⟩⟩
theorem Rk.none0 (he : x.edges[i]? = some e) (h0 : e.from_ = 0) (hs : st ∉ nth x.ev e.event) (s t : Int) : Rk x st en i s t ↔ Rk x st en (i + 1) s t := by
  constructor
  · exact .inl
  · rintro (h | ⟨e', he', h1, h2⟩)
    · exact h
    · rw [he] at he'
      injection he' with he'
      subst he'
      rcases h2 with ⟨_, _, h3⟩ | ⟨h3, _⟩
      · exact absurd h3 hs
      · exact absurd h0 h3
/-- ahead of a first edge nothing but the start is reached -/
theorem Rk.first (ho : Ordd x) (he : x.edges[i]? = some e) (h0 : e.from_ = 0) {s t : Int} (h : Rk x st en i s t) : t = st :=
  h.zero fun j a hj ha => by
    have h1 := ho.mono j i a e (by omega) ha he
    have h2 := ho.lt a (List.mem_of_getElem? ha)
    omega
end

def vSl (s : SlI) : Value := .slice s.A s.xs.length s.c
/-- the list of lists in memory: its block, and the lists, apart from one another -/
structure RcAt (B : Nat) (W : World) (Bo : Nat) (os : List SlI) : Prop where
  blk : W.heap[Bo]? = some (.cells (os.map vSl).toArray 36 (0, 0))
  each : ∀ s ∈ os, OwnInt W B s.A s.c s.xs
  ap : ∀ (i j : Nat) (s t : SlI) (g : Nat), i ≠ j → os[i]? = some s → os[j]? = some t → ob s.A = some g → ob t.A = some g → False
  hB : B ≤ Bo
section
variable {B Bo : Nat} {W W' : World} {os : List SlI}
theorem RcAt.keep (h : RcAt B W Bo os) (hk : ∀ b, b < W.heap.size → W'.heap[b]? = W.heap[b]?) : RcAt B W' Bo os :=
  ⟨(hk Bo (box_lt h.blk)).trans h.blk, fun s hs => own_block (h.each s hs) fun g hg => hk g (own_ob (h.each s hs) g hg).2, h.ap, h.hB⟩
theorem RcAt.below (h : RcAt B W Bo os) (hb : Below W.heap.size W W') : RcAt B W' Bo os := h.keep hb.block
theorem RcAt.cell (h : RcAt B W Bo os) {k : Nat} {s : SlI} (hk : os[k]? = some s) : W.cell? ⟨Bo, k, none⟩ = some (.slice s.A s.xs.length s.c) := by
  rw [cell_of_row W Bo k _ _ (0, 0) h.blk]
  simp [hk, vSl]
theorem RcAt.froz (h : RcAt B W Bo os) (k : Nat) : W.frozen? ⟨Bo, k, none⟩ = false := by simp [World.frozen?, h.blk]
theorem RcAt.ints (h : RcAt B W Bo os) {k : Nat} {s : SlI} (hk : os[k]? = some s) : IntsAt W W.heap.size s.A s.xs := (h.each s (List.mem_of_getElem? hk)).ats
theorem RcAt.own (h : RcAt B W Bo os) {k : Nat} {s : SlI} (hk : os[k]? = some s) : OwnInt W B s.A s.c s.xs := h.each s (List.mem_of_getElem? hk)
theorem RcAt.ne (h : RcAt B W Bo os) {k : Nat} {s : SlI} (hk : os[k]? = some s) : ob s.A ≠ some Bo := row_ne (h.own hk) h.blk (fun cur e => by injection e with _ e; exact typesII' e)
where
  typesII' : 36 ≠ 3 := by decide
theorem RcAt.lower {B' : Nat} (h : RcAt B W Bo os) (hb : B' ≤ B) : RcAt B' W Bo os := ⟨h.blk, fun s hs => OwnInt.lower (h.each s hs) hb, h.ap, Nat.le_trans hb h.hB⟩
theorem own_one {w : World} {B : Nat} (v : Int) (hB : B ≤ w.heap.size) : OwnInt (w.alloc (.cells #[.int .i64 v] 3)) B (some ⟨w.heap.size, 0, none⟩) 1 [v] :=
  ⟨by simp, .inr ⟨w.heap.size, 1, #[.int .i64 v], rfl, hB, new_at rfl, Nat.le_refl _, by unfold maxLen; omega, rfl, rfl⟩⟩
theorem RcAt.put {w5 : World} {k g c' : Nat} {ys : List Int} {s : SlI} (h : RcAt B W Bo os) (hk : os[k]? = some s) (hkeep : ∀ b, b < W.heap.size → ob s.A ≠ some b → w5.heap[b]? = W.heap[b]?) (hon : OwnInt w5 B (some ⟨g, 0, none⟩) c' ys) (hg : ob s.A = some g ∨ W.heap.size ≤ g) :
    RcAt B (w5.setCell ⟨Bo, k, none⟩ (.slice (some ⟨g, 0, none⟩) ys.length c')) Bo (os.set k ⟨some ⟨g, 0, none⟩, c', ys⟩) := by
  have hlt := (List.getElem?_eq_some_iff.1 hk).1
  have hBo := box_lt h.blk
  have h5 : w5.heap[Bo]? = some (.cells (os.map vSl).toArray 36 (0, 0)) := (hkeep Bo hBo (h.ne hk)).trans h.blk
  have hgB : g ≠ Bo := by
    rcases hg with e | e
    · rintro rfl; exact h.ne hk e
    · omega
  have key : ∀ (i : Nat) (o' : SlI), (os.set k ⟨some ⟨g, 0, none⟩, c', ys⟩)[i]? = some o' → (i = k ∧ o' = ⟨some ⟨g, 0, none⟩, c', ys⟩) ∨ (i ≠ k ∧ os[i]? = some o') := fun i o' hs => by
    rw [List.getElem?_set] at hs
    by_cases e : k = i
    · rw [if_pos e, if_pos (by omega)] at hs
      injection hs with hs
      exact .inl ⟨e.symm, hs.symm⟩
    · rw [if_neg e] at hs; exact .inr ⟨fun e' => e e'.symm, hs⟩
  refine ⟨?_, fun t ht => ?_, fun i j t t' q hij hi hj hq hq' => ?_, h.hB⟩
  · simp [World.setCell, Array.getElem?_modify, h5, List.map_set, vSl]
  · obtain ⟨i, hi⟩ := List.getElem?_of_mem ht
    rcases key i t hi with ⟨_, rfl⟩ | ⟨hne, h1⟩
    · exact own_block hon fun q hq => Below.heap_setCell _ _ _ _ (by rw [ob_some] at hq; injection hq with hq; subst hq; exact hgB)
    · have ho := h.own h1
      refine own_block (own_block (w' := w5) ho fun q hq => ?_) fun q hq => Below.heap_setCell _ _ _ _ (by rintro rfl; exact h.ne h1 hq)
      exact hkeep q (own_ob ho q hq).2 (fun e => h.ap i k t s q hne h1 hk hq e)
  · rcases key i t hi with ⟨rfl, rfl⟩ | ⟨hni, h1⟩ <;> rcases key j t' hj with ⟨rfl, rfl⟩ | ⟨hnj, h2⟩
    · exact hij rfl
    · rw [ob_some] at hq
      injection hq with hq
      subst hq
      rcases hg with e | e
      · exact h.ap i j s t' g hij hk h2 e hq'
      · have := (own_ob (h.own h2) g hq').2; omega
    · rw [ob_some] at hq'
      injection hq' with hq'
      subst hq'
      rcases hg with e | e
      · exact h.ap j i s t g (fun e => hij e.symm) hk h1 e hq
      · have := (own_ob (h.own h1) g hq).2; omega
    · exact h.ap i j t t' q hij h1 h2 hq hq'
end
theorem EdgeAt.step {w w' : World} {x : MIn} {k be oe bv ov j : Nat} {s : SlI} {f t wh lo hi : Int} (h : EdgeAt w x k be oe bv ov j s f t wh lo hi) (hb : Below w.heap.size w w') : EdgeAt w' x k be oe bv ov j s f t wh lo hi :=
  { h with
    e0 := (hb.cell (p := ⟨be, oe + k * 6, none⟩) h.be).trans h.e0
    e1 := (hb.cell (p := ⟨be, oe + k * 6 + 1, none⟩) h.be).trans h.e1
    e2 := (hb.cell (p := ⟨be, oe + k * 6 + 2, none⟩) h.be).trans h.e2
    e3 := (hb.cell (p := ⟨be, oe + k * 6 + 3, none⟩) h.be).trans h.e3
    e4 := (hb.cell (p := ⟨be, oe + k * 6 + 4, none⟩) h.be).trans h.e4
    e5 := (hb.cell (p := ⟨be, oe + k * 6 + 5, none⟩) h.be).trans h.e5
    v0 := (hb.cell (p := ⟨bv, ov + j, none⟩) h.bv).trans h.v0
    ints := h.ints.step hb
    be := Nat.lt_of_lt_of_le h.be hb.size
    bv := Nat.lt_of_lt_of_le h.bv hb.size }
/-- one number appended to a list of the call's own, at a step of a region that draws its order -/
theorem step_append_int {ops : Array Oper} {o : Oper} {a : Act} {K : Act → World → Prop} {Q : Exit → Act → World → Prop} {E : Prop} {w : World} (hgd : o.guard = none) (s x : Operand)
    (ho : o.op = .call { callee := .builtin .append, args := #[s, x], argTypes := #[36, 36] })
    (base : Nat) (A : Option Addr) (c : Nat) (zs : List Int) (n : Nat) (hs : a.eval s = .slice A n c) (hn : n = zs.length) (v : Int)
    (N : Nat) (hx : a.eval x = .slice (some ⟨N, 0, none⟩) 1 1) (wp : World) (hw : w.heap = wp.heap.push (.cells #[.int .i64 v] 3)) (hN : N = wp.heap.size)
    (hown : OwnInt wp base A c zs) (hlen : zs.length ≤ 8796093022207) (hbase : base ≤ wp.heap.size)
    (h : ∀ (g c' : Nat) (w' : World), OwnInt w' base (some ⟨g, 0, none⟩) c' (zs ++ [v]) → w.grownBy w' (ob A) → (ob A = some g ∨ g = wp.heap.size + 1) → K (a.put o.dst (.slice (some ⟨g, 0, none⟩) (n + 1) c')) w') :
    if Region.wanted o (yielded ops a.tmps) = true then Oper.wp Try.prog o a w K Q else E := by
  have hwt : Region.wanted o (yielded ops a.tmps) = true := by simp [Region.wanted, hgd]
  rw [if_pos hwt]
  subst hn hN
  obtain ⟨i0, hi0, hz0, hz1, hz2⟩ := info_parts infoInt
  have hown' : w.ownsRow base 3 1 (.slice A zs.length c) zs.length (zs.map (Value.int .i64)) := own_push hown hw
  obtain ⟨v', w', hr, h2, h3, _, h5⟩ := run_append_own_at (P := Try.prog) w base 36 o.type 3 i0 _ 1 8 Try.underlying36 hi0 hz0 hz1 hz2 rfl (by decide) _ zs.length (zs.map (Value.int .i64)) hown'
    ⟨wp.heap.size, 0, none⟩ 1 1 [.int .i64 v] rfl (fun j u hu => by rw [cells_push hw]; simpa using hu) (by simp [Value.oneCell']) (by simp only [maxLen]; omega) (by omega) (by rw [hw]; simp; omega)
  unfold Oper.wp execOp
  simp only [ho, resolve, invoke, builtin, Sem.run_bind, Sem.run_pure, Result.andThen_ok, List.map_toArray, List.map_cons, List.map_nil, hs, hx, hr]
  rcases Joins.ownsRow_forms h2 with ⟨_, h1⟩ | ⟨g, c', rfl⟩
  · omega
  · refine h g c' w' (by unfold OwnInt; simpa using h2) (by rw [ob_eq] at h3; exact h3) ?_
    rw [ob_eq, ob_eq] at h5
    rcases h5 with e | e
    · exact .inl e.symm
    · have e' : some g = some w.heap.size := e
      have hz : w.heap.size = wp.heap.size + 1 := by rw [hw]; exact Array.size_push _
      exact .inr ((Option.some.inj e').trans hz)

def RReachPost (x : MIn) (st : Int) (w : World) (e : Ending) (w' : World) : Prop :=
  ∃ (Bo : Nat) (os : List SlI), e = .returned (.slice (some ⟨Bo, 0, none⟩) x.a.fin.length x.a.fin.length) ∧ os.length = x.a.fin.length ∧ RcAt w.heap.size w' Bo os ∧ RcP (Rch x.inp st x.en) os ∧ Below w.heap.size w w'

end Go.Proofs.Ytkbiefklilelmaa
