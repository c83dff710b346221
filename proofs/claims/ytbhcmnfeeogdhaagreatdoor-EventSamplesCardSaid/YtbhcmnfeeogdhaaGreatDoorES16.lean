/-
  Several texts in one: Append, RefSets, RIns, RTyped, RSigs, Ref51b. Each says at its head what it holds.
-/
import Derived.Test.YtbhcmnfeeogdhaaGreatDoorES5
import Derived.Deep.DeepCutAuto
import Derived.Deep.CutBlock
import Derived.Test.YtbhcmnfeeogdhaaGreatDoorES10
import Derived.Test.YtbhcmnfeeogdhaaGreatDoorES12
import Derived.Test.YtbhcmnfeeogdhaaGreatDoorES4

/-
  append of a whole slice, wherever it lies, onto a row of the call's own.
-/
namespace Go.Proofs.YtbhcmnfeeogdhaaGreatDoor
open Go.RowKit Go.Joins

theorem IntsAt.src {w : World} {B : Nat} {A : Option Addr} {zs : List Int} (h : IntsAt w B A zs) : zs.map (Value.int .i64) ≠ [] → ∃ b off, A = some ⟨b, off, none⟩ ∧ ∀ j u, (zs.map (Value.int .i64))[j]? = some u → w.cell? ⟨b, off + j, none⟩ = some u := by
  intro hne
  obtain ⟨b, off, e, _, hc⟩ := h (fun e => hne (by rw [e]; rfl))
  refine ⟨b, off, e, fun j u hu => ?_⟩
  rw [List.getElem?_map] at hu
  cases hj : zs[j]? with
  | none => rw [hj] at hu; cases hu
  | some z =>
    rw [hj] at hu
    simp only [Option.map_some, Option.some.injEq] at hu
    subst hu
    exact hc j z hj

theorem append_ints_any {ops : Array Oper} {rest : List Oper} {o : Oper} {a : Act} {Q : Exit → Act → World → Prop} {w : World} (hgd : o.guard = none) (s x : Operand)
    (ho : o.op = .call { callee := .builtin .append, args := #[s, x], argTypes := #[32, 32] })
    (base : Nat) (A : Option Addr) (c : Nat) (xs : List Int) (n : Nat) (hs : a.eval s = .slice A n c) (hn : n = xs.length) (hown : OwnInt w base A c xs)
    (A' : Option Addr) (m c' B : Nat) (ys : List Int) (hx : a.eval x = .slice A' m c') (hm : m = ys.length) (hy : IntsAt w B A' ys) (hlen : n + m ≤ 8796093022208) (hbase : base ≤ w.heap.size)
    (h : ∀ (A2 : Option Addr) (c2 : Nat) (w' : World) (row : Option Nat), OwnInt w' base A2 c2 (xs ++ ys) → w.grownBy w' row → (∀ k, row = some k → base ≤ k) →
      wpList Tryz.prog ops Q rest (a.put o.dst (.slice A2 (n + m) c2)) w') :
    wpList Tryz.prog ops Q (o :: rest) a w := by
  subst hn hm
  obtain ⟨i0, hi0, hz0, hz1, hz2⟩ := info_parts infoInt
  refine append_src hgd s x 32 ho base 3 i0 _ 1 8 Tryz.underlying32 hi0 hz0 hz1 hz2 rfl (by decide) _ xs.length (xs.map (Value.int .i64)) hs hown A' ys.length c' (ys.map (Value.int .i64)) hx (by simp) hy.src
    (by simp [Value.oneCell']) (by simp only [maxLen]; omega) (by omega) hbase ?_
  intro v' w' ho' hg
  obtain ⟨A2, c2, rfl, ho''⟩ := OwnInt.of_row (zs := xs ++ ys) ho' (by simp) (by simp)
  have := h A2 c2 w' _ ho'' hg hown.block
  simpa using this

theorem OwnInt.empty (w : World) (base : Nat) (hb : base ≤ w.heap.size) : OwnInt (w.alloc (.cells #[] 3)) base (some ⟨w.heap.size, 0, none⟩) 0 [] := World.ownsRow_lit w #[] 0 hb (by simp [maxLen]) rfl
end Go.Proofs.YtbhcmnfeeogdhaaGreatDoor

/-
  Plain mathematics of the reference's combination: sorted cuts, and the list that is built from them. No program in sight.
-/
namespace Go.Proofs.YtbhcmnfeeogdhaaGreatDoor

/-- a number put into sorted numbers -/
def insAt (ps : List Int) (k : Nat) (v : Int) : List Int := ps.take k ++ [v] ++ ps.drop k
theorem insAt_mem (ps : List Int) (k : Nat) (v u : Int) : u ∈ insAt ps k v ↔ u = v ∨ u ∈ ps := by
  unfold insAt
  have h : u ∈ ps ↔ u ∈ ps.take k ∨ u ∈ ps.drop k := by rw [← List.mem_append, List.take_append_drop]
  rw [List.mem_append, List.mem_append, h, List.mem_singleton]
  constructor
  · rintro ((h | h) | h)
    · exact .inr (.inl h)
    · exact .inl h
    · exact .inr (.inr h)
  · rintro (h | h | h)
    · exact .inl (.inr h)
    · exact .inl (.inl h)
    · exact .inr h
theorem insAt_length (ps : List Int) (k : Nat) (v : Int) (hk : k ≤ ps.length) : (insAt ps k v).length = ps.length + 1 := by
  unfold insAt; simp; omega
theorem insAt_sorted (ps : List Int) (k : Nat) (v : Int) (h : ps.Pairwise (· < ·)) (hlo : ∀ j (_ : j < ps.length), j < k → ps[j] < v) (hhi : ∀ (_ : k < ps.length), v < ps[k]) : (insAt ps k v).Pairwise (· < ·) := by
  unfold insAt
  have hp := List.pairwise_iff_getElem.1 h
  have hlow : ∀ x ∈ ps.take k, x < v := by
    intro x hx
    obtain ⟨j, hj, rfl⟩ := List.getElem_of_mem hx
    rw [List.length_take] at hj
    rw [List.getElem_take]
    exact hlo j (by omega) (by omega)
  have hhigh : ∀ y ∈ ps.drop k, v < y := by
    intro y hy
    obtain ⟨j, hj, rfl⟩ := List.getElem_of_mem hy
    rw [List.length_drop] at hj
    rw [List.getElem_drop]
    have h0 := hhi (by omega)
    rcases Nat.eq_zero_or_pos j with hj0 | hj0
    · subst hj0; simpa using h0
    · exact Int.lt_trans h0 (hp k (k + j) (by omega) (by omega) (by omega))
  rw [List.pairwise_append, List.pairwise_append]
  refine ⟨⟨h.sublist (List.take_sublist k ps), by simp, fun x hx y hy => ?_⟩, h.sublist (List.drop_sublist k ps), fun x hx y hy => ?_⟩
  · simp at hy; subst hy; exact hlow x hx
  · rcases List.mem_append.1 hx with hx | hx
    · exact Int.lt_trans (hlow x hx) (hhigh y hy)
    · simp at hx; subst hx; exact hhigh y hy

theorem between {ps : List Int} (hs : ps.Pairwise (· < ·)) {i : Nat} (hi : i + 1 < ps.length) {v : Int} (hv : v ∈ ps) : v ≤ ps.getD i 0 ∨ ps.getD (i + 1) 0 ≤ v := by
  obtain ⟨j, hj, rfl⟩ := getD_of_mem hv
  rcases Nat.lt_trichotomy j i with h | h | h
  · exact .inl (Int.le_of_lt (getD_mono hs h (by omega)))
  · subst h; exact .inl (Int.le_refl _)
  · rcases Nat.lt_or_ge (i + 1) j with h' | h'
    · exact .inr (Int.le_of_lt (getD_mono hs h' hj))
    · have : j = i + 1 := by omega
      subst this; exact .inr (Int.le_refl _)

end Go.Proofs.YtbhcmnfeeogdhaaGreatDoor

/-
  The reference's insert and add: sorted numbers with another one, each once.
-/
namespace Go.Proofs.YtbhcmnfeeogdhaaGreatDoor
open Go.RowKit Go.Joins

theorem ret_sliceI {A : Option Addr} {n m c : Nat} (h : n = m) : Ending.returned (.slice A n c) = .returned (.slice A m c) := by rw [h]
def InsRel (ps : List Int) (v : Int) (i : Value) : Prop := ∃ k : Nat, k ≤ ps.length ∧ i = .int .i64 k ∧ ∀ j (_ : j < ps.length), j < k → ps[j] < v
def InsEnd (ps : List Int) (v : Int) (i : Value) (w0 w : World) : Prop := ∃ k : Nat, k ≤ ps.length ∧ i = .int .i64 k ∧ (∀ j (_ : j < ps.length), j < k → ps[j] < v) ∧ (∀ (_ : k < ps.length), v ≤ ps[k]) ∧ w0 = w

/-- what add returns: the sorted numbers with one more -/
def RetIns (w : World) (ps : List Int) (v : Int) (e : Ending) (w' : World) : Prop :=
  ∃ (b off c : Nat) (ps' : List Int), e = .returned (.slice (some ⟨b, off, none⟩) ps'.length c) ∧ IntsAt w' w'.heap.size (some ⟨b, off, none⟩) ps' ∧ ps'.length ≤ c ∧ Below w.heap.size w w' ∧
    ps'.Pairwise (· < ·) ∧ (∀ u, u ∈ ps' ↔ u = v ∨ u ∈ ps) ∧ ps'.length ≤ ps.length + 1 ∧ ps' ≠ []

set_option maxHeartbeats 2000000 in
theorem sadd_any (b off c : Nat) (ps : List Int) (v : Int) (w : World) (h : IntsAt w w.heap.size (some ⟨b, off, none⟩) ps) (hc : ps.length ≤ c) (hl : ps.length ≤ 4398046511104) (hs : ps.Pairwise (· < ·)) :
    Calls Tryz.prog 118 #[.slice (some ⟨b, off, none⟩) ps.length c, .int .i64 v] w (RetIns w ps v) := by
  have HSO := hide hs
  clear hs
  go_enter Tryz.func118, Tryz.ntmps118
  go_upto_block 0 with fail
  go_cut [5] (fun i wx => InsEnd ps v i w wx)
  case first =>
    go_wp2
    go_loop [5] (fun i => InsRel ps v i) (fun i => ps.length - (intOf i).toNat)
    case atStart => exact ⟨0, Nat.zero_le _, rfl, fun j _ h => by omega⟩
    case round =>
      obtain ⟨k, hk, rfl, hlo⟩ := hrel
      by_cases hlt : k < ps.length
      · obtain ⟨b', off', e, hbb, hc1⟩ := h.at_ hlt
        injection e with e
        injection e with e1 e2
        subst e1 e2
        by_cases h1 : ps[k] < v
        · go_wp2
          go_round
          case rel => exact ⟨k + 1, by omega, by go_num, fun j hj hjk => by
            rcases Nat.lt_or_ge j k with h' | h'
            · exact hlo j hj h'
            · have : j = k := by omega
              subst this; exact h1⟩
          case measure => simp [intOf]; omega
        · go_wp2
          go_meet
          exact ⟨k, hk, rfl, hlo, fun _ => by omega, rfl⟩
      · go_wp2
        go_meet
        exact ⟨k, hk, rfl, hlo, fun _ => by omega, rfl⟩
  case rest =>
    obtain ⟨k, hk, rfl, hlo, hhi, rfl⟩ := hcut
    have HLO := hide hlo
    have HHI := hide hhi
    clear hlo hhi
    by_cases heq : ∃ hlt : k < ps.length, ps[k] = v
    · obtain ⟨hlt, hv⟩ := heq
      obtain ⟨b', off', e, hbb, hc1⟩ := h.at_ hlt
      injection e with e
      injection e with e1 e2
      subst e1 e2
      subst hv
      go_wp2
      go_ret
      exact ⟨b, off, c, ps, rfl, h, hc, Below.refl _ _, HSO.out, fun u => ⟨fun hu => .inr hu, fun hu => hu.elim (fun e => by rw [e]; exact List.getElem_mem _) id⟩, by omega, fun e => by subst e; simp at hlt⟩
    · have hlen : (insAt ps k v).length = ps.length + 1 := insAt_length ps k v hk
      have hso : (insAt ps k v).Pairwise (· < ·) := insAt_sorted ps k v HSO.out HLO.out (fun hlt => by have := HHI.out hlt; have : ps[k] ≠ v := fun e => heq ⟨hlt, e⟩; omega)
      by_cases hlt : k < ps.length
      · obtain ⟨b', off', e, hbb, hc1⟩ := h.at_ hlt
        injection e with e
        injection e with e1 e2
        subst e1 e2
        have hbe : (ps[k] == v) = false := by simp; exact fun e => heq ⟨hlt, e⟩
        have hck : ¬ c = k := by omega
        have hd : IntsAt w w.heap.size (some ⟨b, off + k, none⟩) (ps.drop k) := h.drop k
        go_upto_region 7 with (at_builtin; (refine append_ints_any rfl _ _ rfl w.heap.size _ 0 [] _ rfl rfl (OwnInt.empty _ _ (Nat.le_refl _)) (some ⟨b, off + k, none⟩) (ps.length - k) (c - k) _ (ps.drop k) rfl (by simp) (hd.alloc _) (by omega) (by simp) ?_); intro A1 c1 w1 row1 own1 hg1 hr1)
        have hb1 : Below w.heap.size w w1 := ((Below.refl _ _).alloc (Nat.le_refl _) _).grown hg1 (by simp) hr1
        have hrest : IntsAt w1 w1.heap.size A1 (ps.drop k) := by simpa using own1.ats
        have hfront : IntsAt w1 w1.heap.size (some ⟨b, off, none⟩) (ps.take k) := (h.step hb1).take k
        have hmin : (ps.take k).length = k := by simp; omega
        have HMIN := hide hmin
        clear hmin
        go_wp2_with (first
          | (at_builtin; (refine append_ints_any rfl (.tmp 39) (.tmp 42) rfl w1.heap.size _ 0 [] _ rfl rfl (OwnInt.empty _ _ (Nat.le_refl _)) (some ⟨b, off, none⟩) k c _ (ps.take k) rfl HMIN.out.symm (hfront.alloc _) (by omega) (by simp) ?_); intro A2 c2 w2 row2 own2 hg2 hr2; have hb2 : Below w1.heap.size w1 w2 := ((Below.refl _ _).alloc (Nat.le_refl _) _).grown hg2 (by simp) hr2)
          | (at_builtin; (refine append_ints rfl (.tmp 43) (.tmp 45) rfl w1.heap.size A2 c2 (ps.take k) _ rfl (by simp; omega) [v] 1 1 _ rfl rfl (by simp) _ _ rfl rfl (by simp) own2 (by omega) hb2.size ?_); intro g3 c3 w3 row3 own3 hg3' hg3 hr3; have hb3 : Below w1.heap.size w1 w3 := (hb2.alloc hb2.size _).grown hg3 (by have := hb2.size; simp; omega) hr3)
          | (at_builtin; (refine append_ints_any rfl (.tmp 46) (.tmp 47) rfl w1.heap.size _ c3 (ps.take k ++ [v]) _ rfl (by simp; omega) own3 A1 (ps.length - k) c1 _ (ps.drop k) rfl (by simp) (hrest.below hb3) (by omega) hb3.size ?_); intro A4 c4 w4 row4 own4 hg4 hr4; have hb4 : Below w1.heap.size w1 w4 := hb3.grown hg4 hb3.size hr4))
        go_ret
        have e4 : ps.take k ++ [v] ++ ps.drop k = insAt ps k v := rfl
        rw [e4] at own4
        rcases own4.form with ⟨_, _, h3⟩ | ⟨g, rfl, _, _, h3, _⟩
        · rw [h3] at hlen; simp at hlen
        · refine ⟨g, 0, c4, insAt ps k v, ?_, own4.ats, h3, bstep hb1 hb4, hso, fun u => insAt_mem ps k v u, by omega, fun e => by rw [e] at hlen; simp at hlen⟩
          rw [hlen]
          exact ret_sliceI (by omega)
      · have HDROP := hide (show ps.drop k = [] from List.drop_eq_nil_of_le (by omega))
        by_cases hck : c = k
        · have hck2 : k = c := hck.symm
          subst hck2
          clear hck
          have hle : ps.length ≤ k := by omega
          go_upto_region 7 with (at_builtin; (refine append_ints_any rfl _ _ rfl w.heap.size _ 0 [] _ rfl rfl (OwnInt.empty _ _ (Nat.le_refl _)) _ _ _ 0 (ps.drop k) rfl (by simp; try omega) (by rw [HDROP.out]; exact IntsAt.nil) (by omega) (by simp) ?_); intro A1 c1 w1 row1 own1 hg1 hr1)
          have hb1 : Below w.heap.size w w1 := ((Below.refl _ _).alloc (Nat.le_refl _) _).grown hg1 (by simp) hr1
          have hrest : IntsAt w1 w1.heap.size A1 (ps.drop k) := by simpa using own1.ats
          have hfront : IntsAt w1 w1.heap.size (some ⟨b, off, none⟩) (ps.take k) := (h.step hb1).take k
          have hmin : (ps.take k).length = k := by simp; omega
          have HMIN := hide hmin
          clear hmin
          go_wp2_with (first
            | (at_builtin; (refine append_ints_any rfl (.tmp 39) (.tmp 42) rfl w1.heap.size _ 0 [] _ rfl rfl (OwnInt.empty _ _ (Nat.le_refl _)) (some ⟨b, off, none⟩) k k _ (ps.take k) rfl HMIN.out.symm (hfront.alloc _) (by omega) (by simp) ?_); intro A2 c2 w2 row2 own2 hg2 hr2; have hb2 : Below w1.heap.size w1 w2 := ((Below.refl _ _).alloc (Nat.le_refl _) _).grown hg2 (by simp) hr2)
            | (at_builtin; (refine append_ints rfl (.tmp 43) (.tmp 45) rfl w1.heap.size A2 c2 (ps.take k) _ rfl (by simp; omega) [v] 1 1 _ rfl rfl (by simp) _ _ rfl rfl (by simp) own2 (by omega) hb2.size ?_); intro g3 c3 w3 row3 own3 hg3' hg3 hr3; have hb3 : Below w1.heap.size w1 w3 := (hb2.alloc hb2.size _).grown hg3 (by have := hb2.size; simp; omega) hr3)
            | (at_builtin; (refine append_ints_any rfl (.tmp 46) (.tmp 47) rfl w1.heap.size _ c3 (ps.take k ++ [v]) _ rfl (by simp; omega) own3 A1 _ c1 _ (ps.drop k) rfl (by simp; try omega) (hrest.below hb3) (by omega) hb3.size ?_); intro A4 c4 w4 row4 own4 hg4 hr4; have hb4 : Below w1.heap.size w1 w4 := hb3.grown hg4 hb3.size hr4))
          go_ret
          have e4 : ps.take k ++ [v] ++ ps.drop k = insAt ps k v := rfl
          rw [e4] at own4
          rcases own4.form with ⟨_, _, h3⟩ | ⟨g, rfl, _, _, h3, _⟩
          · rw [h3] at hlen; simp at hlen
          · refine ⟨g, 0, c4, insAt ps k v, ?_, own4.ats, h3, bstep hb1 hb4, hso, fun u => insAt_mem ps k v u, by omega, fun e => by rw [e] at hlen; simp at hlen⟩
            rw [hlen]
            exact ret_sliceI (by omega)
        · go_upto_region 7 with (at_builtin; (refine append_ints_any rfl _ _ rfl w.heap.size _ 0 [] _ rfl rfl (OwnInt.empty _ _ (Nat.le_refl _)) _ _ _ 0 (ps.drop k) rfl (by simp) (by rw [HDROP.out]; exact IntsAt.nil) (by omega) (by simp) ?_); intro A1 c1 w1 row1 own1 hg1 hr1)
          have hb1 : Below w.heap.size w w1 := ((Below.refl _ _).alloc (Nat.le_refl _) _).grown hg1 (by simp) hr1
          have hrest : IntsAt w1 w1.heap.size A1 (ps.drop k) := by simpa using own1.ats
          have hfront : IntsAt w1 w1.heap.size (some ⟨b, off, none⟩) (ps.take k) := (h.step hb1).take k
          have hmin : (ps.take k).length = k := by simp; omega
          have HMIN := hide hmin
          clear hmin
          go_wp2_with (first
            | (at_builtin; (refine append_ints_any rfl (.tmp 39) (.tmp 42) rfl w1.heap.size _ 0 [] _ rfl rfl (OwnInt.empty _ _ (Nat.le_refl _)) (some ⟨b, off, none⟩) k c _ (ps.take k) rfl HMIN.out.symm (hfront.alloc _) (by omega) (by simp) ?_); intro A2 c2 w2 row2 own2 hg2 hr2; have hb2 : Below w1.heap.size w1 w2 := ((Below.refl _ _).alloc (Nat.le_refl _) _).grown hg2 (by simp) hr2)
            | (at_builtin; (refine append_ints rfl (.tmp 43) (.tmp 45) rfl w1.heap.size A2 c2 (ps.take k) _ rfl (by simp; omega) [v] 1 1 _ rfl rfl (by simp) _ _ rfl rfl (by simp) own2 (by omega) hb2.size ?_); intro g3 c3 w3 row3 own3 hg3' hg3 hr3; have hb3 : Below w1.heap.size w1 w3 := (hb2.alloc hb2.size _).grown hg3 (by have := hb2.size; simp; omega) hr3)
            | (at_builtin; (refine append_ints_any rfl (.tmp 46) (.tmp 47) rfl w1.heap.size _ c3 (ps.take k ++ [v]) _ rfl (by simp; omega) own3 A1 (ps.length - k) c1 _ (ps.drop k) rfl (by simp) (hrest.below hb3) (by omega) hb3.size ?_); intro A4 c4 w4 row4 own4 hg4 hr4; have hb4 : Below w1.heap.size w1 w4 := hb3.grown hg4 hb3.size hr4))
          go_ret
          have e4 : ps.take k ++ [v] ++ ps.drop k = insAt ps k v := rfl
          rw [e4] at own4
          rcases own4.form with ⟨_, _, h3⟩ | ⟨g, rfl, _, _, h3, _⟩
          · rw [h3] at hlen; simp at hlen
          · refine ⟨g, 0, c4, insAt ps k v, ?_, own4.ats, h3, bstep hb1 hb4, hso, fun u => insAt_mem ps k v u, by omega, fun e => by rw [e] at hlen; simp at hlen⟩
            rw [hlen]
            exact ret_sliceI (by omega)

end Go.Proofs.YtbhcmnfeeogdhaaGreatDoor

/-
  wavestoreref51.typed: whether all names of a signal in a tree have a kind and a width.
-/
namespace Go.Proofs.YtbhcmnfeeogdhaaGreatDoor
open Go.RowKit

theorem agrF_mkT (x k w : Int) (kind at_ : Int) (name value : ByteArray) (a b c d : Int) (KA : Option Addr) (kc : Nat) (kids : List Nd) : agrF x k w (.mk kind at_ name value a b c d KA kc kids) = (!(decide (kind = 1) && decide (a = x) && (decide (c ≠ k) || decide (b ≠ w))) && kids.all (agrF x k w)) := agrF_eq x k w _
def TydRel (x k w : Int) (l : List Nd) (W : World) (i : Value) (wr : World) : Prop := ∃ j : Nat, j ≤ l.length ∧ i = .int .i64 (j : Int) ∧ (l.take j).all (agrF x k w) = true ∧ Below W.heap.size W wr

set_option maxRecDepth 100000 in
set_option maxHeartbeats 8000000 in
theorem rtyped_any (x k q : Int) (n : Nd) : ∀ w : World, TreesAt w (Lo w.heap.size) n.KA n.kids → Calls Tryz.prog 91 #[.agg (cNd n).toArray, .int .i64 x, .int .i64 k, .int .i64 q] w (RetV (.bool (agrF x k q n)) w) := by
  induction n using Nd.ind with
  | h n ih =>
  intro w ht
  have IH := hide ih
  clear ih
  obtain ⟨kind, at_, name, value, a, b, c, d, KA, kc, kids⟩ := n
  unfold Nd.KA Nd.kids at ht
  unfold cNd
  have hl := ht.len
  obtain ⟨W0, hW0⟩ : ∃ W0, w.alloc (.cells #[.int .i64 kind, .int .i64 at_, .string name, .string value, .int .i64 a, .int .i64 b, .int .i64 c, .int .i64 d, .slice KA kids.length kc] 30) = W0 := ⟨_, rfl⟩
  have g0 := new_at hW0
  have hb0 : Below w.heap.size w W0 := by rw [← hW0]; exact (Below.refl _ _).alloc (Nat.le_refl _) _
  have HT := hide (ht.grow hb0)
  have HG0 := hide g0
  have HB0 := hide hb0
  have HW0 := hide hW0
  obtain ⟨y0, y1, y2, y3, y4, y5, y6, y7, y8⟩ := box9 g0
  clear ht g0 hb0 hW0
  have HQ := hide (show ∀ (o : Bool) (wr : World), agrF x k q (.mk kind at_ name value a b c d KA kc kids) = o → Below W0.heap.size W0 wr → RetV (.bool (agrF x k q (.mk kind at_ name value a b c d KA kc kids))) w (.returned (.bool o)) wr from fun o wr h hb => ⟨by rw [h], bstep HB0.out hb⟩)
  have HEQ := hide (agrF_mkT x k q kind at_ name value a b c d KA kc kids)
  obtain ⟨bad, hbad⟩ : ∃ bad, (decide (kind = 1) && decide (a = x) && (decide (c ≠ k) || decide (b ≠ q))) = bad := ⟨_, rfl⟩
  rw [hbad] at HEQ
  have HBAD := hide hbad
  clear hbad
  go_enter Tryz.func91, Tryz.ntmps91
  go_upto_region 1 with (fail)
  rw [HW0.out]
  go_cut [30] (fun v wx => v = .bool bad ∧ W0 = wx)
  case first =>
    by_cases k1 : kind = 1
    · by_cases k2 : a = x
      · by_cases k3 : c = k
        · by_cases k4 : b = q
          · have e1 : bad = false := by rw [← HBAD.out, decide_eq_true k1, decide_eq_true k2, decide_eq_false (fun h => h k3), decide_eq_false (fun h => h k4)]; rfl
            have HE := hide e1
            clear e1
            subst k1 k2 k3 k4
            go_wp2_with fail
            go_meet
            exact ⟨by rw [HE.out], rfl⟩
          · have e1 : bad = true := by rw [← HBAD.out, decide_eq_true k1, decide_eq_true k2, decide_eq_false (fun h => h k3), decide_eq_true k4]; rfl
            have HE := hide e1
            have T4 : (b != q) = true := bne_iff_ne.2 k4
            clear e1 k4
            subst k1 k2 k3
            go_wp2_with fail
            go_meet
            exact ⟨by rw [HE.out], rfl⟩
        · have e1 : bad = true := by rw [← HBAD.out, decide_eq_true k1, decide_eq_true k2, decide_eq_true k3]; rfl
          have HE := hide e1
          have T3 : (c != k) = true := bne_iff_ne.2 k3
          clear e1 k3
          subst k1 k2
          go_wp2_with fail
          go_meet
          exact ⟨by rw [HE.out], rfl⟩
      · have e1 : bad = false := by rw [← HBAD.out, decide_eq_true k1, decide_eq_false k2]; rfl
        have HE := hide e1
        have T2 : (a == x) = false := beq_eq_false_iff_ne.2 k2
        clear e1 k2
        subst k1
        go_wp2_with fail
        go_meet
        exact ⟨by rw [HE.out], rfl⟩
    · have e1 : bad = false := by rw [← HBAD.out, decide_eq_false k1]; rfl
      have HE := hide e1
      have T1 : (kind == 1) = false := beq_eq_false_iff_ne.2 k1
      clear k1 e1
      go_wp2_with fail
      go_meet
      exact ⟨by rw [HE.out], rfl⟩
  case rest =>
    obtain ⟨rfl, rfl⟩ := hcut
    clear HBAD
    cases bad with
    | true =>
      have HR := hide (HQ.out false W0 HEQ.out (Below.refl _ _))
      clear HQ HEQ
      go_wp2_with fail
      go_ret
      exact HR.out
    | false =>
      go_wp2_with fail
      go_loopw [9] (fun i wr => TydRel x k q kids W0 i wr) (fun i _ => kids.length - (intOf i).toNat)
      case atStart => exact ⟨0, Nat.zero_le _, rfl, rfl, Below.refl _ _⟩
      case round =>
        obtain ⟨V, rfl⟩ : ∃ w2 : World, w2 = wr := ⟨_, rfl⟩
        obtain ⟨j, hj, rfl, hall, hbr⟩ := hrel
        have HBR := hide hbr
        have HALL := hide hall
        obtain ⟨-, -, -, -, -, -, -, -, x8⟩ := box9 ((hbr.block _ (box_lt HG0.out)).trans HG0.out)
        clear hbr hall y0 y1 y2 y3 y4 y5 y6 y7 y8
        by_cases hlt : j < kids.length
        · have hT := HT.out.grow HBR.out
          obtain ⟨bk, ok, rfl, hbk, hc⟩ := hT.row.at_ hlt
          have hmem := List.getElem_mem hlt
          have hkid := hT.each _ hmem
          have hcall := IH.out _ (show kids[j] ∈ Nd.kids (.mk kind at_ name value a b c d (some ⟨bk, ok, none⟩) kc kids) from hmem) V hkid
          have HTK := hide (show kids.take (j + 1) = kids.take j ++ [kids[j]] from List.take_succ_eq_append_getElem hlt)
          generalize kids[j] = m at *
          have HAL := hide (show ∀ z, agrF x k q m = z → (kids.take (j + 1)).all (agrF x k q) = z ∧ (z = false → kids.all (agrF x k q) = false) from fun z hz => by
            rw [HTK.out, List.all_append, HALL.out]
            refine ⟨by simp [hz], fun h => ?_⟩
            rw [h] at hz
            exact Bool.eq_false_iff.2 fun h2 => by rw [List.all_eq_true.1 h2 m hmem] at hz; cases hz)
          generalize agrF x k q m = v at *
          obtain ⟨m1, m2, m3, m4, m5, m6, m7, m8, mK, mc, ml⟩ := m
          unfold cNd at hc hcall
          obtain ⟨c0, c1, c2, c3, c4, c5, c6, c7, c8⟩ := nine hc
          have HC := hide hcall
          clear hc hcall hkid hT hmem
          go_wp2_with fail
          refine HC.out.mono ?_
          rintro e w2 ⟨rfl, hb2⟩
          have HB2 := hide (bstep HBR.out hb2)
          clear hb2
          cases v with
          | true =>
            go_wp2_with fail
            exact ⟨⟨j + 1, hlt, by go_num, (HAL.out _ rfl).1, HB2.out⟩, by simp [intOf]; omega⟩
          | false =>
            have HR := hide (HQ.out false w2 (by rw [HEQ.out, (HAL.out _ rfl).2 rfl]; rfl) HB2.out)
            clear HQ HEQ
            go_wp2_with fail
            go_ret
            exact HR.out
        · have hke : j = kids.length := by omega
          subst hke
          rw [List.take_length] at HALL
          have HR := hide (HQ.out true V (by rw [HEQ.out, HALL.out]; rfl) HBR.out)
          clear HQ HEQ
          go_wp2_with fail
          go_ret
          exact HR.out

end Go.Proofs.YtbhcmnfeeogdhaaGreatDoor

/-
  wavestoreref50.Signals: the signals of a tree, in order, each once.
-/
namespace Go.Proofs.YtbhcmnfeeogdhaaGreatDoor
open Go.RowKit

def RSgPost (n : Nd) (w : World) (e : Ending) (w' : World) : Prop :=
  ∃ (b off c : Nat) (zs : List Int), e = .returned (.slice (some ⟨b, off, none⟩) zs.length c) ∧ IntsAt w' w'.heap.size (some ⟨b, off, none⟩) zs ∧ zs.length ≤ c ∧ Below w.heap.size w w' ∧ zs.Pairwise (· < ·) ∧ (∀ u, u ∈ zs ↔ u ∈ sigF n) ∧ zs.length ≤ (sigF n).length
/-- the signals so far: those of S -/
def RSgRel (S : List Int) (m : Nat) (w : World) (l : Value) (wr : World) : Prop :=
  ∃ (b off c : Nat) (zs : List Int), l = .slice (some ⟨b, off, none⟩) zs.length c ∧ IntsAt wr wr.heap.size (some ⟨b, off, none⟩) zs ∧ zs.length ≤ c ∧ Below w.heap.size w wr ∧ zs.Pairwise (· < ·) ∧ (∀ u, u ∈ zs ↔ u ∈ S) ∧ zs.length ≤ m
def RSgOut (S : List Int) (kids : List Nd) (w : World) (l i : Value) (wr : World) : Prop :=
  ∃ j : Nat, j ≤ kids.length ∧ i = .int .i64 (j : Int) ∧ RSgRel (S ++ ((kids.take j).map sigF).flatten) (S ++ ((kids.take j).map sigF).flatten).length w l wr
def RSgIn (S ms : List Int) (m : Nat) (w : World) (l i : Value) (wr : World) : Prop :=
  ∃ k : Nat, k ≤ ms.length ∧ i = .int .i64 (k : Int) ∧ RSgRel (S ++ ms.take k) (m + k) w l wr
theorem RSgRel.congr {S S' : List Int} {m m' : Nat} {w : World} {l : Value} {wr : World} (h : RSgRel S m w l wr) (hs : ∀ u, u ∈ S ↔ u ∈ S') (hm : m ≤ m') : RSgRel S' m' w l wr := by
  obtain ⟨b, off, c, zs, h1, h2, h3, h4, h5, h6, h7⟩ := h
  exact ⟨b, off, c, zs, h1, h2, h3, h4, h5, fun u => (h6 u).trans (hs u), Nat.le_trans h7 hm⟩
theorem rsigF_mk (kind at_ : Int) (name value : ByteArray) (a b c d : Int) (KA : Option Addr) (kc : Nat) (kids : List Nd) : sigF (.mk kind at_ name value a b c d KA kc kids) = (if kind = 1 then [a] else []) ++ (kids.map sigF).flatten := sigF_eq _
theorem flat_le {α : Type} (l : List (List α)) (j : Nat) : ((l.take j).flatten).length ≤ l.flatten.length := by
  have h : l.flatten = (l.take j).flatten ++ (l.drop j).flatten := by rw [← List.flatten_append, List.take_append_drop]
  rw [h, List.length_append]
  omega

set_option maxRecDepth 100000 in
set_option maxHeartbeats 8000000 in
theorem rsigs_any (n : Nd) : ∀ w : World, TreesAt w (Lo w.heap.size) n.KA n.kids → (sigF n).length ≤ 1000000 → Calls Tryz.prog 90 #[.agg (cNd n).toArray] w (RSgPost n w) := by
  induction n using Nd.ind with
  | h n ih =>
  intro w ht hle
  have IH := hide ih
  clear ih
  obtain ⟨n', hn'⟩ : ∃ n', n' = n := ⟨_, rfl⟩
  obtain ⟨kind, at_, name, value, a, b, c, d, KA, kc, kids⟩ := n
  have hsf := rsigF_mk kind at_ name value a b c d KA kc kids
  unfold Nd.KA Nd.kids at ht
  dsimp only [Nd.kids] at IH
  unfold cNd
  have hl := ht.len
  obtain ⟨S0, hS0⟩ : ∃ S0 : List Int, (if kind = 1 then [a] else []) = S0 := ⟨_, rfl⟩
  have HS0 := hide hS0
  rw [hS0] at hsf
  have HLE := hide (show (S0 ++ (kids.map sigF).flatten).length ≤ 1000000 by rw [← hsf]; exact hle)
  have HE := hide (show ∀ (l : Value) (wr : World), RSgRel (S0 ++ (kids.map sigF).flatten) (S0 ++ (kids.map sigF).flatten).length w l wr → RSgPost (.mk kind at_ name value a b c d KA kc kids) w (.returned l) wr from fun l wr h => by
    obtain ⟨b, off, c, zs, rfl, h2, h3, h4, h5, h6, h7⟩ := h
    exact ⟨b, off, c, zs, rfl, h2, h3, h4, h5, by rw [hsf]; exact h6, by rw [hsf]; exact h7⟩)
  obtain ⟨W0, hW0⟩ : ∃ W0, w.alloc (.cells #[.int .i64 kind, .int .i64 at_, .string name, .string value, .int .i64 a, .int .i64 b, .int .i64 c, .int .i64 d, .slice KA kids.length kc] 30) = W0 := ⟨_, rfl⟩
  have g0 := new_at hW0
  have hb0 : Below w.heap.size w W0 := by rw [← hW0]; exact (Below.refl _ _).alloc (Nat.le_refl _) _
  have HT := hide (ht.grow hb0)
  have HG0 := hide g0
  have HB0 := hide hb0
  have HW0 := hide hW0
  obtain ⟨y0, y1, y2, y3, y4, y5, y6, y7, y8⟩ := box9 g0
  clear ht g0 hb0 hW0 hsf hle hn' hS0
  go_enter Tryz.func90, Tryz.ntmps90
  go_upto_region 1 with (fail)
  rw [HW0.out]
  obtain ⟨W1, hW1⟩ : ∃ W1, W0.alloc (.cells #[] 3) = W1 := ⟨_, rfl⟩
  have hb1 : Below W0.heap.size W0 W1 := by rw [← hW1]; exact (Below.refl _ _).alloc (Nat.le_refl _) _
  have HW1 := hide hW1
  have HB1 := hide hb1
  clear hW1 hb1
  go_upto_region 2 with (fail)
  rw [HW1.out]
  clear y0 y1 y2 y3 y4 y5 y6 y7 y8
  obtain ⟨y0, y1, y2, y3, y4, y5, y6, y7, y8⟩ := box9 ((HB1.out.block _ (box_lt HG0.out)).trans HG0.out)
  go_upto_if 10 with (fail)
  go_cut [3] (fun l wx => RSgRel S0 S0.length w l wx ∧ Below W0.heap.size W0 wx)
  case first =>
    by_cases k1 : kind = 1
    · have HS := hide (show S0 = [a] by rw [← HS0.out, if_pos k1])
      subst k1
      have hcall := sadd_any W0.heap.size 0 0 [] a W1 IntsAt.nil (Nat.le_refl _) (by simp) List.Pairwise.nil
      dsimp only [List.length_nil] at hcall
      have HC := hide hcall
      clear hcall
      go_wp2_with fail
      refine HC.out.mono ?_
      rintro e w2 ⟨b1, o1, c1, ps, rfl, h1, h2, h3, h4, h5, h6, h7⟩
      have HR := hide (show RSgRel S0 S0.length w (.slice (some ⟨b1, o1, none⟩) ps.length c1) w2 from ⟨b1, o1, c1, ps, rfl, h1, h2, bstep HB0.out (bstep HB1.out h3), h4, by rw [HS.out]; simpa using h5, by rw [HS.out]; simpa using h6⟩)
      have HB2 := hide (bstep HB1.out h3)
      clear h1 h2 h3 h4 h5 h6 h7
      go_wp2_with fail
      go_meet
      exact ⟨HR.out, HB2.out⟩
    · have T1 : (kind == 1) = false := beq_eq_false_iff_ne.2 k1
      have HS := hide (show S0 = [] by rw [← HS0.out, if_neg k1])
      clear k1
      go_wp2_with fail
      go_meet
      exact ⟨⟨W0.heap.size, 0, 0, [], rfl, IntsAt.nil, Nat.le_refl _, bstep HB0.out HB1.out, List.Pairwise.nil, by rw [HS.out]; simp, by simp⟩, HB1.out⟩
  case rest =>
    obtain ⟨hr, hb⟩ := hcut
    obtain ⟨W2, rfl⟩ : ∃ x : World, x = wc := ⟨_, rfl⟩
    have HR := hide hr
    have HB2 := hide hb
    clear hr hb y0 y1 y2 y3 y4 y5 y6 y7 y8
    go_upto_region 5 with (fail)
    go_loopw [3, 4] (fun l i wr => RSgOut S0 kids w l i wr ∧ Below W0.heap.size W0 wr) (fun _ i _ => kids.length - (intOf i).toNat)
    case atStart =>
      refine ⟨⟨0, Nat.zero_le _, rfl, ?_⟩, HB2.out⟩
      simpa using HR.out
    case round =>
      obtain ⟨V, rfl⟩ : ∃ w2 : World, w2 = wr := ⟨_, rfl⟩
      obtain ⟨⟨j, hj, rfl, hr⟩, hbr⟩ := hrel
      have HBR := hide hbr
      have HRR := hide hr
      obtain ⟨y0, y1, y2, y3, y4, y5, y6, y7, y8⟩ := box9 ((hbr.block _ (box_lt HG0.out)).trans HG0.out)
      clear hbr hr
      by_cases hlt : j < kids.length
      · have hT := HT.out.grow HBR.out
        obtain ⟨bk, ok, rfl, hbk, hc⟩ := hT.row.at_ hlt
        have hmem := List.getElem_mem hlt
        have hkid := hT.each _ hmem
        have hcnt := flat_le (kids.map sigF) (j + 1)
        have hle := HLE.out
        have HTK := hide (show ((kids.take (j + 1)).map sigF).flatten = ((kids.take j).map sigF).flatten ++ sigF kids[j] by rw [List.take_succ_eq_append_getElem hlt, List.map_append, List.flatten_append]; simp only [List.map_cons, List.map_nil, List.flatten_cons, List.flatten_nil, List.append_nil])
        rw [← List.map_take, HTK.out, List.length_append] at hcnt
        rw [List.length_append] at hle
        have hcall := IH.out _ hmem V hkid (by omega)
        obtain ⟨Sj, hSj⟩ : ∃ Sj, S0 ++ ((kids.take j).map sigF).flatten = Sj := ⟨_, rfl⟩
        have hSl : Sj.length + (sigF kids[j]).length ≤ 1000000 := by rw [← hSj, List.length_append]; omega
        have HSJ := hide hSj
        rw [hSj] at HRR
        generalize kids[j] = m at *
        obtain ⟨m1, m2, m3, m4, m5, m6, m7, m8, mK, mc, ml⟩ := m
        generalize hmm : Nd.mk m1 m2 m3 m4 m5 m6 m7 m8 mK mc ml = m at hcall HTK hSl
        unfold cNd at hc
        have hcn : cNd m = [.int .i64 m1, .int .i64 m2, .string m3, .string m4, .int .i64 m5, .int .i64 m6, .int .i64 m7, .int .i64 m8, .slice mK ml.length mc] := by rw [← hmm]; rfl
        rw [hcn] at hcall
        obtain ⟨c0, c1, c2, c3, c4, c5, c6, c7, c8⟩ := nine hc
        have HC := hide hcall
        clear hc hcall hkid hT hmem hcnt hle hSj hmm hcn
        go_upto_region 7 with (fail)
        go_wp2_with fail
        refine HC.out.mono ?_
        rintro e w2 ⟨b1, o1, d1, ms, rfl, h1, h2, h3, h4, h5, h6⟩
        have HB3 := hide (bstep HBR.out h3)
        have HR3 := hide (show RSgRel Sj Sj.length w _ w2 from by
          obtain ⟨b2, o2, d2, zs, e1, g1, g2, g3, g4, g5, g6⟩ := HRR.out
          exact ⟨b2, o2, d2, zs, e1, g1.step h3, g2, bstep g3 h3, g4, g5, g6⟩)
        have HM1 := hide h1
        have HM5 := hide h5
        have hml : ms.length ≤ (sigF m).length := h6
        clear h1 h2 h3 h4 h5 h6 c0 c1 c2 c3 c4 c5 c6 c7 c8 y0 y1 y2 y3 y4 y5 y6 y7 y8
        go_upto_region 9 with (fail)
        go_loopw [3, 6] (fun l i wr => RSgIn Sj ms Sj.length w l i wr ∧ Below w2.heap.size w2 wr) (fun _ i _ => ms.length - (intOf i).toNat)
        case atStart =>
          refine ⟨⟨0, Nat.zero_le _, rfl, ?_⟩, Below.refl _ _⟩
          simpa using HR3.out
        case round =>
          obtain ⟨X, rfl⟩ : ∃ w2 : World, w2 = wr := ⟨_, rfl⟩
          obtain ⟨⟨k, hk, rfl, hr⟩, hbx⟩ := hrel
          have HBX := hide hbx
          have HRX := hide hr
          clear hr hbx
          by_cases hltk : k < ms.length
          · obtain ⟨b2, o2, e2, hb2, hc2⟩ := (HM1.out.step HBX.out).at_ hltk
            injection e2 with e2
            injection e2 with e2 e3
            subst e2 e3
            obtain ⟨b3, o3, d3, zs, rfl, g1, g2, g3, g4, g5, g6⟩ := HRX.out
            have HTM := hide (show ms.take (k + 1) = ms.take k ++ [ms[k]] from List.take_succ_eq_append_getElem hltk)
            generalize ms[k] = x at *
            have hcall := sadd_any b3 o3 d3 zs x X g1 g2 (by omega) g4
            have HC2 := hide hcall
            have HG5 := hide g5
            have HG3 := hide g3
            have HG6 := hide g6
            clear hcall g1 g2 g3 g4 g5 g6
            go_wp2_with fail
            refine HC2.out.mono ?_
            rintro e w3 ⟨b4, o4, d4, ps, rfl, p1, p2, p3, p4, p5, p6, p7⟩
            have HRN := hide (show RSgRel (Sj ++ ms.take (k + 1)) (Sj.length + (k + 1)) w (.slice (some ⟨b4, o4, none⟩) ps.length d4) w3 from ⟨b4, o4, d4, ps, rfl, p1, p2, bstep HG3.out p3, p4, fun u => by
              rw [p5, HG5.out, HTM.out, List.mem_append, List.mem_append, List.mem_append, List.mem_singleton]
              exact ⟨fun h => by rcases h with h | h | h <;> simp [h], fun h => by rcases h with h | h | h <;> simp [h]⟩, by have := HG6.out; omega⟩)
            have HBN := hide (bstep HBX.out p3)
            clear p1 p2 p3 p4 p5 p6 p7 hc2
            go_wp2_with fail
            exact ⟨⟨⟨k + 1, hltk, by go_num, HRN.out⟩, HBN.out⟩, by simp [intOf]; omega⟩
          · have hke : k = ms.length := by omega
            have HRN := hide (show RSgRel (S0 ++ (((kids.take (j + 1)).map sigF).flatten)) (S0 ++ (((kids.take (j + 1)).map sigF).flatten)).length w _ X from by
              have h := HRX.out
              rw [hke, List.take_length] at h
              rw [HTK.out, ← List.append_assoc, HSJ.out]
              refine h.congr (fun u => ?_) (by rw [List.length_append]; omega)
              rw [List.mem_append, List.mem_append, HM5.out])
            have HBN := hide (bstep HB3.out HBX.out)
            clear hke
            go_wp2_with fail
            exact ⟨⟨⟨j + 1, hlt, by go_num, HRN.out⟩, HBN.out⟩, by simp [intOf]; omega⟩
      · have hke : j = kids.length := by omega
        have HF := hide (show RSgPost (.mk kind at_ name value a b c d KA kc kids) w (.returned _) V from HE.out _ V (by have h := HRR.out; rw [hke, List.take_length] at h; exact h))
        obtain ⟨b2, o2, d2, zs, e1, -⟩ := HRR.out
        subst e1
        clear hke HE
        go_wp2_with fail
        go_ret
        exact HF.out

end Go.Proofs.YtbhcmnfeeogdhaaGreatDoor

/-
  wavestoreref51.inverted, bit, sum.
-/
namespace Go.Proofs.YtbhcmnfeeogdhaaGreatDoor
open Go.RowKit

theorem known1 {c : UInt8} {v : Bool} (h : Hid (knC c = v)) (w : World) : Calls Tryz.prog 157 #[.string ⟨#[c]⟩] w fun e w' => e = .returned (.bool v) ∧ w = w' :=
  (rknown_any ⟨#[c]⟩ w (by show 1 ≤ 1000; omega)).mono fun e w' ⟨h1, h2⟩ => ⟨by rw [h1, ← h.out]; simp [knownB], h2⟩

set_option maxRecDepth 100000 in
set_option maxHeartbeats 4000000 in
theorem bit_any (k : Int) (hk : k = 9 ∨ k = 10 ∨ k = 11) (a b : UInt8) (w : World) :
    Calls Tryz.prog 120 #[.int .i64 k, bv a, bv b] w fun e w' => e = .returned (bv (opC k a b)) ∧ Below w.heap.size w w' := by
  have kc := conv_one
  have kc2 : ∀ (w : World) (d c : UInt8), (convert 174 9 (.slice (some ⟨w.heap.size + 1, 0, none⟩) 1 1)).run Tryz.prog ((w.alloc (.cells #[bv d] 5)).alloc (.cells #[bv c] 5)) = .ok (.string ⟨#[c]⟩) ((w.alloc (.cells #[bv d] 5)).alloc (.cells #[bv c] 5)) := fun w d c => by
    have h := conv_one (w.alloc (.cells #[bv d] 5)) c
    rw [World.size_alloc] at h
    exact h
  have HOP := hide (op_tab k hk a b).1
  rcases code_cases a with ⟨rfl, h1, h2⟩ | ⟨rfl, h1, h2⟩ | ⟨p0, p1, p0', p1', h1, h2⟩
  all_goals
    have HA := hide h1
    have HKA := hide h2
    clear h1 h2
    rcases code_cases b with ⟨rfl, h1, h2⟩ | ⟨rfl, h1, h2⟩ | ⟨q0, q1, q0', q1', h1, h2⟩
    all_goals
      have HB := hide h1
      have HKB := hide h2
      clear h1 h2
      first | rw [HA.out, HB.out] at HOP | rw [HA.out] at HOP
      rcases hk with rfl | rfl | rfl
      all_goals
        go_enter Tryz.func120, Tryz.ntmps120
        go_wp2_with (first | (go_at_call 157; ((with_reducible refine (known1 HKA _).mono ?_); rintro e w1 ⟨rfl, rfl⟩)) | (go_at_call 157; ((with_reducible refine (known1 HKB _).mono ?_); rintro e w1 ⟨rfl, rfl⟩)))
        go_ret
        exact ⟨by rw [HOP.out]; rfl, by first | exact Below.refl _ _ | exact ((Below.refl _ _).alloc (Nat.le_refl _) _) | exact ((Below.refl _ _).alloc (Nat.le_refl _) _).alloc (by simp) _⟩

end Go.Proofs.YtbhcmnfeeogdhaaGreatDoor
