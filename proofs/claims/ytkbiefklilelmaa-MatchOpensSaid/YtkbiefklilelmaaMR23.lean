/-
  Several texts in one: AppSeq. Each says at its head what it holds.
-/
import Derived.Test.YtkbiefklilelmaaMR11
import Derived.Test.YtkbiefklilelmaaMR13
import Derived.Maps.OwnIn
import Derived.Sort.LoopGhostIn
import Derived.Sort.CutIn
import Derived.Sort.QuietIn

/-
  slices.AppendSeq over the iterator of match.input.times: the times of the range behind the list.
-/
namespace Go.Proofs.Ytkbiefklilelmaa
open Go.RowKit Go.Shelf

attribute [local go_sem] Oper.semAt_some

/-- what AppendSeq's call has at hand -/
structure AFix where
  w : World
  base : Nat
  A0 : Option Addr
  zs : List Int
  Bi : Nat
structure AIc (F : AFix) (ts : List Int) (A : Option Addr) (c : Nat) (W : World) : Prop where
  box : W.heap[F.w.heap.size]? = some (.cells #[.slice A (F.zs ++ ts).length c] 36 (0, 0))
  own : OwnInt W F.base A c (F.zs ++ ts)
  mv : ob A = ob F.A0 ∨ ∃ g, ob A = some g ∧ F.w.heap.size < g
  oth : ∀ b, b < F.w.heap.size → ob F.A0 ≠ some b → b ≠ F.Bi → W.heap[b]? = F.w.heap[b]?
  bel : Below F.base F.w W
  bi : ∃ v, W.heap[F.Bi]? = some (.cells #[v] 3 (0, 0))
structure AFixOk (F : AFix) : Prop where
  b0 : F.base ≤ F.w.heap.size
  bi0 : F.base ≤ F.Bi
  bi1 : F.Bi < F.w.heap.size
  ai : ob F.A0 ≠ some F.Bi
  a0 : ∀ g, ob F.A0 = some g → g < F.w.heap.size
def AI (F : AFix) (ts : List Int) (W : World) : Prop := ∃ A c, AIc F ts A c W
theorem AIc.ne {F : AFix} (ok : AFixOk F) {ts : List Int} {A : Option Addr} {c : Nat} {W : World} (h : AIc F ts A c W) : ob A ≠ some F.Bi ∧ ob A ≠ some F.w.heap.size := by
  have h1 := ok.bi1
  rcases h.mv with h2 | ⟨g, h2, h3⟩
  · rw [h2]
    exact ⟨ok.ai, fun e => by have := ok.a0 _ e; omega⟩
  · rw [h2]
    exact ⟨fun e => by injection e with e; omega, fun e => by injection e with e; omega⟩
theorem own_cells {w : World} {base : Nat} {e : TypeId} {size n : Nat} {A : Option Addr} {c : Nat} {xs : List Value} (h : w.ownsRow base e size (.slice A n c) n xs) {g : Nat} (hg : ob A = some g) : ∃ cs, w.heap[g]? = some (.cells cs e (0, 0)) := by
  rcases h.2 with ⟨h3, _⟩ | ⟨g', cap, cur, h3, _, h4, _⟩
  · rw [← ob_eq A n c, h3] at hg; cases hg
  · rw [← ob_eq A n c, h3] at hg
    have : g' = g := by simpa [Value.ownBlock] using hg
    subst this
    exact ⟨cur, h4⟩
theorem AIc.from {F : AFix} (ok : AFixOk F) {ts : List Int} {A : Option Addr} {c : Nat} {W W' : World} {row : Option Nat} (h : AIc F ts A c W) (hg : W.grownBy W' row) (hr : ∀ r, row = some r → F.w.heap.size ≤ r ∧ ∃ o : Obj, W.heap[r]? = some o ∧ o.isCells = false) : AIc F ts A c W' := by
  have keep : ∀ (k : Nat) (o : Obj), W.heap[k]? = some o → (∃ cs t, o = .cells cs t (0, 0)) → W'.heap[k]? = some o := fun k o hk hc =>
    (hg.block k (Array.getElem?_eq_some_iff.1 hk).1 fun e => by
      obtain ⟨h1, o', h2, h3⟩ := hr k e.symm
      obtain ⟨cs, t, rfl⟩ := hc
      rw [hk] at h2; injection h2 with h2; subst h2; cases h3).trans hk
  obtain ⟨v, hv⟩ := h.bi
  have hb := ok.b0
  refine ⟨keep _ _ h.box ⟨_, _, rfl⟩, own_block h.own fun g hg' => ?_, h.mv, fun b hb ha hn => ?_, h.bel.grown hg (Nat.le_trans ok.b0 h.bel.size) (fun r e => by have := (hr r e).1; omega), ⟨v, keep _ _ hv ⟨_, _, rfl⟩⟩⟩
  · obtain ⟨cs, hcs⟩ := own_cells h.own hg'
    rw [hcs]; exact keep _ _ hcs ⟨_, _, rfl⟩
  · have := h.bel.size
    rw [hg.block b (by omega) fun e => by have := (hr b e.symm).1; omega]
    exact h.oth b hb ha hn
theorem AIc.free {F : AFix} (ok : AFixOk F) {ts : List Int} {A : Option Addr} {c : Nat} {W : World} (h : AIc F ts A c W) (u : Value) : AIc F ts A c (W.setCell ⟨F.Bi, 0, none⟩ u) := by
  obtain ⟨v, hv⟩ := h.bi
  have h1 := ok.bi1
  refine ⟨box_set h.box (by omega), own_block h.own fun g hg => Below.heap_setCell _ _ _ _ fun e => (h.ne ok).1 (by rw [hg]; exact congrArg some e), h.mv, fun b hb ha hn => ?_, h.bel.setCell (p := ⟨F.Bi, 0, none⟩) ok.bi0 _, ⟨u, box_set1 hv⟩⟩
  rw [Below.heap_setCell _ _ _ _ hn]
  exact h.oth b hb ha hn
theorem AIc.drewN {F : AFix} {ts : List Int} {A : Option Addr} {c : Nat} {W : World} (h : AIc F ts A c W) (n : Nat) : AIc F ts A c (W.drewN n) := ⟨h.box, h.own, h.mv, h.oth, below_drewN h.bel n, h.bi⟩

/-- behind the append of a round -/
theorem AIc.push {F : AFix} (ok : AFixOk F) {ts : List Int} {t : Int} {A : Option Addr} {c : Nat} {W W3 : World} {g4 c4 : Nat} (h : AIc F ts A c W) (hown : W3.ownsRow F.base 3 1 (.slice (some ⟨g4, 0, none⟩) ((F.zs ++ ts).length + 1) c4) ((F.zs ++ ts).length + 1) ((F.zs ++ ts).map (Value.int .i64) ++ [.int .i64 t]))
    (hg : (W.alloc (.cells #[.int .i64 t] 3)).grownBy W3 (Value.slice A (F.zs ++ ts).length c).ownBlock) (hat : (Value.slice (some ⟨g4, 0, none⟩) ((F.zs ++ ts).length + 1) c4).ownBlock = (Value.slice A (F.zs ++ ts).length c).ownBlock ∨ (Value.slice (some ⟨g4, 0, none⟩) ((F.zs ++ ts).length + 1) c4).ownBlock = some (W.heap.size + 1)) :
    W3.cell? ⟨F.w.heap.size, 0, none⟩ = some (.slice A (F.zs ++ ts).length c) ∧ W3.frozen? ⟨F.w.heap.size, 0, none⟩ = false ∧ AIc F (ts ++ [t]) (some ⟨g4, 0, none⟩) c4 (W3.setCell ⟨F.w.heap.size, 0, none⟩ (.slice (some ⟨g4, 0, none⟩) ((F.zs ++ ts).length + 1) c4)) ∧
      KeepsFrom (F.w.heap.size + 1) W (W3.setCell ⟨F.w.heap.size, 0, none⟩ (.slice (some ⟨g4, 0, none⟩) ((F.zs ++ ts).length + 1) c4)) ∧ ∀ b, b < F.w.heap.size → ob F.A0 ≠ some b → (W3.setCell ⟨F.w.heap.size, 0, none⟩ (.slice (some ⟨g4, 0, none⟩) ((F.zs ++ ts).length + 1) c4)).heap[b]? = W.heap[b]? := by
  simp only [ob_eq] at hg hat
  obtain ⟨v, hv⟩ := h.bi
  have hb1 := ok.bi1
  have hsz := h.bel.size
  have hne := h.ne ok
  have keep : ∀ b, b < W.heap.size → ob A ≠ some b → W3.heap[b]? = W.heap[b]? := fun b hb ha => by
    rw [hg.block b (by simp; omega) (fun e => ha e.symm), Below.heap_alloc _ _ _ hb]
  have hbs : W3.heap[F.w.heap.size]? = _ := (keep _ (box_lt h.box) hne.2).trans h.box
  have hlt : ∀ b, b < F.w.heap.size → ob F.A0 ≠ some b → ob A ≠ some b := fun b hb ha => by
    rcases h.mv with h2 | ⟨g, h2, h3⟩
    · rw [h2]; exact ha
    · rw [h2]; intro e; injection e with e; omega
  have hmv : ob (some ⟨g4, 0, none⟩) = ob F.A0 ∨ ∃ g, ob (some ⟨g4, 0, none⟩) = some g ∧ F.w.heap.size < g := by
    rcases hat with h1 | h1
    · rcases h.mv with h2 | ⟨g, h2, h3⟩
      · left; rw [← h2]; exact h1
      · right; exact ⟨g, h1.trans h2, h3⟩
    · right; exact ⟨_, h1, by omega⟩
  have n4 : ob (some ⟨g4, 0, none⟩) ≠ some F.w.heap.size := by
    rcases hmv with h2 | ⟨g, h2, h3⟩
    · rw [h2]; intro e; have := ok.a0 _ e; omega
    · rw [h2]; intro e; injection e with e; omega
  have hlen : (F.zs ++ (ts ++ [t])).length = (F.zs ++ ts).length + 1 := by simp; omega
  refine ⟨box_cell hbs, box_frozen hbs, ⟨?_, ?_, hmv, fun b hb ha hn => ?_, ?_, ⟨v, ?_⟩⟩, ⟨?_, fun k o hk1 hk2 hk3 => ?_⟩, fun b hb ha => ?_⟩
  · rw [hlen]; exact box_set1 hbs
  · unfold OwnInt
    rw [hlen]
    have := own_block (w' := W3.setCell ⟨F.w.heap.size, 0, none⟩ (.slice (some ⟨g4, 0, none⟩) ((F.zs ++ ts).length + 1) c4)) hown fun g' hg' => Below.heap_setCell _ _ _ _ (fun e => n4 (by rw [hg']; exact congrArg some e))
    simpa [List.map_append] using this
  · rw [Below.heap_setCell _ _ _ _ (by show b ≠ F.w.heap.size; omega), keep b (by omega) (hlt b hb ha)]
    exact h.oth b hb ha hn
  · refine (((h.bel.alloc (Nat.le_trans ok.b0 h.bel.size) _).grown hg (by have := ok.b0; simp; omega) fun k e => ?_).setCell (p := ⟨F.w.heap.size, 0, none⟩) ok.b0 _)
    exact (own_ob h.own k e).1
  · rw [Below.heap_setCell _ _ _ _ (by show F.Bi ≠ F.w.heap.size; omega), keep _ (box_lt hv) hne.1]
    exact hv
  · have := hg.size
    simp at this ⊢
    omega
  · have hl := (Array.getElem?_eq_some_iff.1 hk2).1
    rw [Below.heap_setCell _ _ _ _ (by show k ≠ F.w.heap.size; omega), keep k hl fun e => ?_]
    · exact hk2
    · obtain ⟨cs, h1⟩ := own_cells h.own e
      rw [hk2] at h1
      injection h1 with h1
      subst h1
      cases hk3
  · rw [Below.heap_setCell _ _ _ _ (by show b ≠ F.w.heap.size; omega), keep b (by omega) (hlt b hb ha)]

/-- what AppendSeq returns -/
def AppSeqPost (base : Nat) (A0 : Option Addr) (zs ts : List Int) (Bi : Nat) (w : World) (e : Ending) (w' : World) : Prop :=
  ∃ A c, e = .returned (.slice A (zs ++ ts).length c) ∧ OwnInt w' base A c (zs ++ ts) ∧ (ob A = ob A0 ∨ ∃ g, ob A = some g ∧ w.heap.size < g) ∧ (∀ b, b < w.heap.size → ob A0 ≠ some b → b ≠ Bi → w'.heap[b]? = w.heap[b]?) ∧ Below base w w'

set_option maxRecDepth 100000 in
set_option maxHeartbeats 4000000 in
theorem appseq_any (base n₀ Bi Bl Bq : Nat) (A0 : Option Addr) (c0 : Nat) (zs : List Int) (sA : Option Addr) (sc i₀ : Nat) (l : List Int) (to_ : Int) (w : World) (hz : OwnInt w base A0 c0 zs) (hb : base ≤ w.heap.size) (hzl : zs.length ≤ 1000000) (hl : l.length ≤ 24) (hi : i₀ ≤ l.length)
    (tb : TBox w Bi Bl Bq sA l.length sc i₀ to_) (hn : n₀ ≤ base) (hA : IntsAt w n₀ sA l) (hbi : base ≤ Bi) (h1 : Bi ≠ Bl) (h2 : Bi ≠ Bq) (ai : ob A0 ≠ some Bi) (al : ob A0 ≠ some Bl) (aq : ob A0 ≠ some Bq) :
    Calls Try.prog 79 #[.slice A0 zs.length c0, .func (.func 100) #[] #[.pointer (some ⟨Bi, 0, none⟩), .pointer (some ⟨Bl, 0, none⟩), .pointer (some ⟨Bq, 0, none⟩)]] w (AppSeqPost base A0 zs (upTo l i₀ to_) Bi w) := by
  refine (callsIn_wide (n := 6)).1 ?_
  refine callsIn_of_wp_marks Try.func79 rfl trivial ?_ rfl
  simp only [Try.ntmps79, List.size_toArray, List.length_cons, List.length_nil, Nat.reduceAdd, Nat.reduceSub, Array.replicate_succ, Array.replicate_zero, List.push_toArray, List.append_toArray, List.nil_append, List.cons_append]
  gi_upto_region 1 with (fail)
  obtain ⟨W0, hW0⟩ : ∃ W0, w.alloc (.cells #[.slice A0 zs.length c0] 36) = W0 := ⟨_, rfl⟩
  rw [hW0]
  have hb0 : Below w.heap.size w W0 := by rw [← hW0]; exact (Below.refl _ _).alloc (Nat.le_refl _) _
  have hz0 : W0.heap.size = w.heap.size + 1 := by rw [← hW0]; simp
  have g0 : W0.heap[w.heap.size]? = some (.cells #[.slice A0 zs.length c0] 36 (0, 0)) := by rw [← hW0]; exact heap_alloc_new w _
  have tb0 : TBox W0 Bi Bl Bq sA l.length sc i₀ to_ := ⟨(hb0.block _ (box_lt tb.i)).trans tb.i, (hb0.block _ (box_lt tb.l)).trans tb.l, (hb0.block _ (box_lt tb.t)).trans tb.t⟩
  have lbi := box_lt tb.i
  have lbl := box_lt tb.l
  have lbq := box_lt tb.t
  obtain ⟨F, hF⟩ : ∃ F : AFix, F = ⟨w, base, A0, zs, Bi⟩ := ⟨_, rfl⟩
  have hok : AFixOk F := by rw [hF]; exact ⟨hb, hbi, lbi, ai, fun g hg => (own_ob hz g hg).2⟩
  have h00 : AI F [] W0 := by
    rw [hF]
    refine ⟨A0, c0, ?_, ?_, .inl rfl, fun b hb' _ _ => hb0.block b hb', hb0.mono hb, ⟨_, tb0.i⟩⟩
    · dsimp only; rw [List.append_nil]; exact g0
    · dsimp only; rw [List.append_nil]; exact hz.below hb0 (Nat.le_refl _)
  have HF := hide hF
  have HOK := hide hok
  have H00 := hide h00
  have HTB := hide tb0
  have HZ0 := hide hz0
  have HBB := hide hb0
  have HGG := hide (And.intro ai (And.intro al aq))
  have HBL := hide (tb.l)
  have HBQ := hide (tb.t)
  obtain ⟨i0, hi0, hzz0, hzz1, hzz2⟩ := info_parts infoInt
  have HI0 := hide hi0
  have HI1 := hide hzz0
  have HI2 := hide hzz1
  have HI3 := hide hzz2
  clear hi0 hzz0 hzz1 hzz2 hF hok h00 tb0 hz0 hb0 hW0 g0 ai al aq tb
  gi_wp2_with fail
  refine range_box (n := 6) (by omega) (gf := 100) (lb := #[.pointer (some ⟨Bi, 0, none⟩), .pointer (some ⟨Bl, 0, none⟩), .pointer (some ⟨Bq, 0, none⟩)]) rfl (enters_of Try.func100 (by kernel_rfl) rfl) (by have := HZ0.out; omega)
    (times_box 5 n₀ Bi Bl Bq sA sc i₀ l to_ (by omega) (by omega) (by omega) h1 h2 W0 (by have := HZ0.out; omega) HTB.out hi (hA.keep fun p hp => HBB.out.cell (Nat.lt_of_lt_of_le hp (by omega))))
    (fun h k => h.trans k) (fun W l' o o' h3 _ _ _ => ⟨fun b hb => World.putObj_heap_other (by have := HZ0.out; omega), World.putObj_heap_other (by have := HZ0.out; omega), World.putObj_heap_other (by have := HZ0.out; omega), World.putObj_heap_other (by have := HZ0.out; omega)⟩) (fun _ => rfl)
    (fun pre W => AI F (vals pre) W) (fun _ _ _ => False)
    (fun s X Y row h3 h4 h5 => by obtain ⟨A, c, h6⟩ := h3; exact ⟨A, c, h6.from HOK.out h4 (fun r e => ⟨by have := (h5 r e).1; rw [HZ0.out] at this; rw [HF.out]; dsimp only; omega, (h5 r e).2⟩)⟩) (fun _ _ _ _ _ h3 _ _ => h3.elim)
    (fun s X h3 => by obtain ⟨A, c, h6⟩ := h3; exact ⟨fun v => ⟨A, c, by have := h6.free HOK.out v; rw [show F.Bi = Bi by rw [HF.out]] at this; exact this⟩, fun n => ⟨A, c, h6.drewN n⟩⟩) (fun _ _ _ h3 => h3.elim) H00.out
    (fun tx => { tmps := #[.slice A0 zs.length c0, .func (.func 100) #[] #[.pointer (some ⟨Bi, 0, none⟩), .pointer (some ⟨Bl, 0, none⟩), .pointer (some ⟨Bq, 0, none⟩)], .pointer (some ⟨w.heap.size, 0, none⟩), undef, .slice none 0 0, .int .i64 tx.1, .func (.func 100) #[] #[.pointer (some ⟨Bi, 0, none⟩), .pointer (some ⟨Bl, 0, none⟩), .pointer (some ⟨Bq, 0, none⟩)], .int .i64 tx.1, undef, undef, undef, undef, undef], defers := [] })
    ?assign ?body ?done ?stop
  case assign =>
    intro lp tx W K hK
    unfold tEnc
    gi_wp2
    exact hK
  case body =>
    rintro lp pre tx W hlp hlW ⟨A, c, hc⟩ hlen
    have hF := HF.out
    subst hF
    have HC := hide hc
    have hbx := hc.box
    dsimp only at hbx
    have c1 := box_cell hbx
    have hpl : (vals pre).length ≤ 24 := by rw [List.length_map]; omega
    obtain ⟨ts, hts⟩ : ∃ ts, vals pre = ts := ⟨_, rfl⟩
    rw [hts] at HC c1 hpl
    have hown : W.ownsRow base 3 1 (.slice A (zs ++ ts).length c) (zs ++ ts).length ((zs ++ ts).map (Value.int .i64)) := HC.out.own
    have hlz : (zs ++ ts).length ≤ 1000024 := by rw [List.length_append]; omega
    have HLZ := hide hlz
    have HTS := hide hts
    have HBS := hide (show base ≤ W.heap.size by have := HC.out.bel.size; dsimp only at this; omega)
    have HOWN := hide hown
    clear hc hbx hown hlz hpl hts
    obtain ⟨L, hL⟩ : ∃ L, (zs ++ ts).length = L := ⟨_, rfl⟩
    rw [hL] at c1
    have HL := hide hL
    clear hL
    gi_wp2_with (gi_at_builtin; (refine wpListIn_append_own_at _ rfl _ _ 36 rfl base 3 i0 (.int .i64 0) 1 8 Try.underlying36 HI0.out HI1.out HI2.out HI3.out rfl (by decide) (.slice A L c) L ((zs ++ ts).map (Value.int .i64)) rfl (by rw [← HL.out]; exact HOWN.out.alloc _) ⟨W.heap.size, 0, none⟩ 1 1 [.int .i64 tx.1] rfl rfl (fun j u hu => by rw [cells_push (cs := #[.int .i64 tx.1]) (t := 3) rfl]; simpa using hu) ?c2 ?c3 ?c4 ?c5 ?_))
    case c2 => simp [Value.oneCell']
    case c3 => have := HLZ.out; rw [HL.out] at this; unfold maxLen; omega
    case c4 => have := HLZ.out; rw [HL.out] at this; omega
    case c5 => have := HBS.out; simp; omega
    intro v' V3 hown3 hg4 _ hat4
    obtain ⟨g4, c4, rfl⟩ := ownsRow_succ hown3
    rw [← HL.out] at hown3 hg4 hat4
    rw [← List.append_assoc, ← List.map_append] at hown3
    obtain ⟨p1, p2, p3, p4, p5⟩ := HC.out.push HOK.out hown3 hg4 hat4
    dsimp only at p1 p2 p3 p4 p5
    rw [HL.out] at p1 p3 p4 p5
    have HFIN := hide (And.intro p3 (And.intro p4 p5))
    clear hown3 hg4 hat4 p3 p4 p5
    gi_wp2_with fail
    obtain ⟨p3, p4, p5⟩ := HFIN.out
    refine ⟨by rw [HZ0.out]; exact p4, ⟨fun b hb => p5 b (by omega) fun e => ?_, p5 Bi lbi HGG.out.1, p5 Bl lbl HGG.out.2.1, p5 Bq lbq HGG.out.2.2⟩, some ⟨g4, 0, none⟩, c4, ?_⟩
    · have := (own_ob hz b e).1
      omega
    · rw [← HTS.out] at p3
      simpa using p3
  case done =>
    rintro D xs W hD hxs ⟨A, c, hc⟩ hDm
    have hF := HF.out
    subst hF
    rw [hxs] at hc
    have hbx := hc.box
    dsimp only at hbx
    have c1 := box_cell hbx
    have HC := hide hc
    have HD := hide hDm
    clear hc hbx hDm
    gi_wp2_with fail
    refine ⟨by simp, .inl ⟨_, _, rfl, run_takeDeferred HD.out, ?_⟩⟩
    refine ⟨.slice A (zs ++ upTo l i₀ to_).length c, by simp [results, Try.f79, go_sem], A, c, rfl, ?_, HC.out.mv, fun b hb ha hn => ?_, ?_⟩
    · exact ownsRow_putObj HC.out.own _ HD.out rfl
    · rw [World.putObj_heap_other (by have := HZ0.out; omega)]
      exact HC.out.oth b hb ha hn
    · exact HC.out.bel.grown (grownBy_putObj' W D _) (by have h8 := HC.out.bel.size; have h9 := HOK.out.b0; dsimp only at h8 h9 ⊢; omega) (fun k e => by injection e with e; have h8 := HZ0.out; have h9 := HOK.out.b0; dsimp only at h9 ⊢; omega)
  case stop =>
    rintro D c pre W _ _ h3
    exact h3.elim

end Go.Proofs.Ytkbiefklilelmaa
