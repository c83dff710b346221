/-
  Several texts in one: AppSeq, Starts, RangeP, Ends. Each says at its head what it holds.
-/
import Derived.Test.YtkbiefklilelmaaMP4
import Derived.Test.YtkbiefklilelmaaMP5
import Derived.Maps.OwnIn
import Derived.Sort.LoopGhostIn
import Derived.Sort.CutIn
import Derived.Sort.QuietIn
import Derived.Test.YtkbiefklilelmaaMP6
import Derived.Test.YtkbiefklilelmaaMP3
import Derived.Maps.RangeWalk

/-
  slices.AppendSeq over the iterator of match.input.times: the times of the range behind the list.
-/
namespace Go.Proofs.Ytkbiefklilelmaa
open Go.RowKit Go.Shelf

attribute [local go_sem] Oper.semAt_some

/-- what AppendSeq's call has at hand -/
structure AFix where
  w : World
  base : Nat
  A0 : Option Addr
  zs : List Int
  Bi : Nat
structure AIc (F : AFix) (ts : List Int) (A : Option Addr) (c : Nat) (W : World) : Prop where
  box : W.heap[F.w.heap.size]? = some (.cells #[.slice A (F.zs ++ ts).length c] 36 (0, 0))
  own : OwnInt W F.base A c (F.zs ++ ts)
  mv : ob A = ob F.A0 ∨ ∃ g, ob A = some g ∧ F.w.heap.size < g
  oth : ∀ b, b < F.w.heap.size → ob F.A0 ≠ some b → b ≠ F.Bi → W.heap[b]? = F.w.heap[b]?
  bel : Below F.base F.w W
  bi : ∃ v, W.heap[F.Bi]? = some (.cells #[v] 3 (0, 0))
structure AFixOk (F : AFix) : Prop where
  b0 : F.base ≤ F.w.heap.size
  bi0 : F.base ≤ F.Bi
  bi1 : F.Bi < F.w.heap.size
  ai : ob F.A0 ≠ some F.Bi
  a0 : ∀ g, ob F.A0 = some g → g < F.w.heap.size
def AI (F : AFix) (ts : List Int) (W : World) : Prop := ∃ A c, AIc F ts A c W
theorem AIc.ne {F : AFix} (ok : AFixOk F) {ts : List Int} {A : Option Addr} {c : Nat} {W : World} (h : AIc F ts A c W) : ob A ≠ some F.Bi ∧ ob A ≠ some F.w.heap.size := by
  have h1 := ok.bi1
  rcases h.mv with h2 | ⟨g, h2, h3⟩
  · rw [h2]
    exact ⟨ok.ai, fun e => by have := ok.a0 _ e; omega⟩
  · rw [h2]
    exact ⟨fun e => by injection e with e; omega, fun e => by injection e with e; omega⟩
theorem own_cells {w : World} {base : Nat} {e : TypeId} {size n : Nat} {A : Option Addr} {c : Nat} {xs : List Value} (h : w.ownsRow base e size (.slice A n c) n xs) {g : Nat} (hg : ob A = some g) : ∃ cs, w.heap[g]? = some (.cells cs e (0, 0)) := by
  rcases h.2 with ⟨h3, _⟩ | ⟨g', cap, cur, h3, _, h4, _⟩
  · rw [← ob_eq A n c, h3] at hg; cases hg
  · rw [← ob_eq A n c, h3] at hg
    have : g' = g := by simpa [Value.ownBlock] using hg
    subst this
    exact ⟨cur, h4⟩
theorem AIc.from {F : AFix} (ok : AFixOk F) {ts : List Int} {A : Option Addr} {c : Nat} {W W' : World} {row : Option Nat} (h : AIc F ts A c W) (hg : W.grownBy W' row) (hr : ∀ r, row = some r → F.w.heap.size ≤ r ∧ ∃ o : Obj, W.heap[r]? = some o ∧ o.isCells = false) : AIc F ts A c W' := by
  have keep : ∀ (k : Nat) (o : Obj), W.heap[k]? = some o → (∃ cs t, o = .cells cs t (0, 0)) → W'.heap[k]? = some o := fun k o hk hc =>
    (hg.block k (Array.getElem?_eq_some_iff.1 hk).1 fun e => by
      obtain ⟨h1, o', h2, h3⟩ := hr k e.symm
      obtain ⟨cs, t, rfl⟩ := hc
      rw [hk] at h2; injection h2 with h2; subst h2; cases h3).trans hk
  obtain ⟨v, hv⟩ := h.bi
  have hb := ok.b0
  refine ⟨keep _ _ h.box ⟨_, _, rfl⟩, own_block h.own fun g hg' => ?_, h.mv, fun b hb ha hn => ?_, h.bel.grown hg (Nat.le_trans ok.b0 h.bel.size) (fun r e => by have := (hr r e).1; omega), ⟨v, keep _ _ hv ⟨_, _, rfl⟩⟩⟩
  · obtain ⟨cs, hcs⟩ := own_cells h.own hg'
    rw [hcs]; exact keep _ _ hcs ⟨_, _, rfl⟩
  · have := h.bel.size
    rw [hg.block b (by omega) fun e => by have := (hr b e.symm).1; omega]
    exact h.oth b hb ha hn
theorem AIc.free {F : AFix} (ok : AFixOk F) {ts : List Int} {A : Option Addr} {c : Nat} {W : World} (h : AIc F ts A c W) (u : Value) : AIc F ts A c (W.setCell ⟨F.Bi, 0, none⟩ u) := by
  obtain ⟨v, hv⟩ := h.bi
  have h1 := ok.bi1
  refine ⟨box_set h.box (by omega), own_block h.own fun g hg => Below.heap_setCell _ _ _ _ fun e => (h.ne ok).1 (by rw [hg]; exact congrArg some e), h.mv, fun b hb ha hn => ?_, h.bel.setCell (p := ⟨F.Bi, 0, none⟩) ok.bi0 _, ⟨u, box_set1 hv⟩⟩
  rw [Below.heap_setCell _ _ _ _ hn]
  exact h.oth b hb ha hn
theorem AIc.drewN {F : AFix} {ts : List Int} {A : Option Addr} {c : Nat} {W : World} (h : AIc F ts A c W) (n : Nat) : AIc F ts A c (W.drewN n) := ⟨h.box, h.own, h.mv, h.oth, below_drewN h.bel n, h.bi⟩

/-- behind the append of a round -/
theorem AIc.push {F : AFix} (ok : AFixOk F) {ts : List Int} {t : Int} {A : Option Addr} {c : Nat} {W W3 : World} {g4 c4 : Nat} (h : AIc F ts A c W) (hown : W3.ownsRow F.base 3 1 (.slice (some ⟨g4, 0, none⟩) ((F.zs ++ ts).length + 1) c4) ((F.zs ++ ts).length + 1) ((F.zs ++ ts).map (Value.int .i64) ++ [.int .i64 t]))
    (hg : (W.alloc (.cells #[.int .i64 t] 3)).grownBy W3 (Value.slice A (F.zs ++ ts).length c).ownBlock) (hat : (Value.slice (some ⟨g4, 0, none⟩) ((F.zs ++ ts).length + 1) c4).ownBlock = (Value.slice A (F.zs ++ ts).length c).ownBlock ∨ (Value.slice (some ⟨g4, 0, none⟩) ((F.zs ++ ts).length + 1) c4).ownBlock = some (W.heap.size + 1)) :
    W3.cell? ⟨F.w.heap.size, 0, none⟩ = some (.slice A (F.zs ++ ts).length c) ∧ W3.frozen? ⟨F.w.heap.size, 0, none⟩ = false ∧ AIc F (ts ++ [t]) (some ⟨g4, 0, none⟩) c4 (W3.setCell ⟨F.w.heap.size, 0, none⟩ (.slice (some ⟨g4, 0, none⟩) ((F.zs ++ ts).length + 1) c4)) ∧
      KeepsFrom (F.w.heap.size + 1) W (W3.setCell ⟨F.w.heap.size, 0, none⟩ (.slice (some ⟨g4, 0, none⟩) ((F.zs ++ ts).length + 1) c4)) ∧ ∀ b, b < F.w.heap.size → ob F.A0 ≠ some b → (W3.setCell ⟨F.w.heap.size, 0, none⟩ (.slice (some ⟨g4, 0, none⟩) ((F.zs ++ ts).length + 1) c4)).heap[b]? = W.heap[b]? := by
  simp only [ob_eq] at hg hat
  obtain ⟨v, hv⟩ := h.bi
  have hb1 := ok.bi1
  have hsz := h.bel.size
  have hne := h.ne ok
  have keep : ∀ b, b < W.heap.size → ob A ≠ some b → W3.heap[b]? = W.heap[b]? := fun b hb ha => by
    rw [hg.block b (by simp; omega) (fun e => ha e.symm), Below.heap_alloc _ _ _ hb]
  have hbs : W3.heap[F.w.heap.size]? = _ := (keep _ (box_lt h.box) hne.2).trans h.box
  have hlt : ∀ b, b < F.w.heap.size → ob F.A0 ≠ some b → ob A ≠ some b := fun b hb ha => by
    rcases h.mv with h2 | ⟨g, h2, h3⟩
    · rw [h2]; exact ha
    · rw [h2]; intro e; injection e with e; omega
  have hmv : ob (some ⟨g4, 0, none⟩) = ob F.A0 ∨ ∃ g, ob (some ⟨g4, 0, none⟩) = some g ∧ F.w.heap.size < g := by
    rcases hat with h1 | h1
    · rcases h.mv with h2 | ⟨g, h2, h3⟩
      · left; rw [← h2]; exact h1
      · right; exact ⟨g, h1.trans h2, h3⟩
    · right; exact ⟨_, h1, by omega⟩
  have n4 : ob (some ⟨g4, 0, none⟩) ≠ some F.w.heap.size := by
    rcases hmv with h2 | ⟨g, h2, h3⟩
    · rw [h2]; intro e; have := ok.a0 _ e; omega
    · rw [h2]; intro e; injection e with e; omega
  have hlen : (F.zs ++ (ts ++ [t])).length = (F.zs ++ ts).length + 1 := by simp; omega
  refine ⟨box_cell hbs, box_frozen hbs, ⟨?_, ?_, hmv, fun b hb ha hn => ?_, ?_, ⟨v, ?_⟩⟩, ⟨?_, fun k o hk1 hk2 hk3 => ?_⟩, fun b hb ha => ?_⟩
  · rw [hlen]; exact box_set1 hbs
  · unfold OwnInt
    rw [hlen]
    have := own_block (w' := W3.setCell ⟨F.w.heap.size, 0, none⟩ (.slice (some ⟨g4, 0, none⟩) ((F.zs ++ ts).length + 1) c4)) hown fun g' hg' => Below.heap_setCell _ _ _ _ (fun e => n4 (by rw [hg']; exact congrArg some e))
    simpa [List.map_append] using this
  · rw [Below.heap_setCell _ _ _ _ (by show b ≠ F.w.heap.size; omega), keep b (by omega) (hlt b hb ha)]
    exact h.oth b hb ha hn
  · refine (((h.bel.alloc (Nat.le_trans ok.b0 h.bel.size) _).grown hg (by have := ok.b0; simp; omega) fun k e => ?_).setCell (p := ⟨F.w.heap.size, 0, none⟩) ok.b0 _)
    exact (own_ob h.own k e).1
  · rw [Below.heap_setCell _ _ _ _ (by show F.Bi ≠ F.w.heap.size; omega), keep _ (box_lt hv) hne.1]
    exact hv
  · have := hg.size
    simp at this ⊢
    omega
  · have hl := (Array.getElem?_eq_some_iff.1 hk2).1
    rw [Below.heap_setCell _ _ _ _ (by show k ≠ F.w.heap.size; omega), keep k hl fun e => ?_]
    · exact hk2
    · obtain ⟨cs, h1⟩ := own_cells h.own e
      rw [hk2] at h1
      injection h1 with h1
      subst h1
      cases hk3
  · rw [Below.heap_setCell _ _ _ _ (by show b ≠ F.w.heap.size; omega), keep b (by omega) (hlt b hb ha)]

/-- what AppendSeq returns -/
def AppSeqPost (base : Nat) (A0 : Option Addr) (zs ts : List Int) (Bi : Nat) (w : World) (e : Ending) (w' : World) : Prop :=
  ∃ A c, e = .returned (.slice A (zs ++ ts).length c) ∧ OwnInt w' base A c (zs ++ ts) ∧ (ob A = ob A0 ∨ ∃ g, ob A = some g ∧ w.heap.size < g) ∧ (∀ b, b < w.heap.size → ob A0 ≠ some b → b ≠ Bi → w'.heap[b]? = w.heap[b]?) ∧ Below base w w'

set_option maxRecDepth 100000 in
set_option maxHeartbeats 4000000 in
theorem appseq_any (base n₀ Bi Bl Bq : Nat) (A0 : Option Addr) (c0 : Nat) (zs : List Int) (sA : Option Addr) (sc i₀ : Nat) (l : List Int) (to_ : Int) (w : World) (hz : OwnInt w base A0 c0 zs) (hb : base ≤ w.heap.size) (hzl : zs.length ≤ 1000000) (hl : l.length ≤ 24) (hi : i₀ ≤ l.length)
    (tb : TBox w Bi Bl Bq sA l.length sc i₀ to_) (hn : n₀ ≤ base) (hA : IntsAt w n₀ sA l) (hbi : base ≤ Bi) (h1 : Bi ≠ Bl) (h2 : Bi ≠ Bq) (ai : ob A0 ≠ some Bi) (al : ob A0 ≠ some Bl) (aq : ob A0 ≠ some Bq) :
    Calls Try.prog 79 #[.slice A0 zs.length c0, .func (.func 100) #[] #[.pointer (some ⟨Bi, 0, none⟩), .pointer (some ⟨Bl, 0, none⟩), .pointer (some ⟨Bq, 0, none⟩)]] w (AppSeqPost base A0 zs (upTo l i₀ to_) Bi w) := by
  refine (callsIn_wide (n := 6)).1 ?_
  refine callsIn_of_wp_marks Try.func79 rfl trivial ?_ rfl
  simp only [Try.ntmps79, List.size_toArray, List.length_cons, List.length_nil, Nat.reduceAdd, Nat.reduceSub, Array.replicate_succ, Array.replicate_zero, List.push_toArray, List.append_toArray, List.nil_append, List.cons_append]
  gi_upto_region 1 with (fail)
  obtain ⟨W0, hW0⟩ : ∃ W0, w.alloc (.cells #[.slice A0 zs.length c0] 36) = W0 := ⟨_, rfl⟩
  rw [hW0]
  have hb0 : Below w.heap.size w W0 := by rw [← hW0]; exact (Below.refl _ _).alloc (Nat.le_refl _) _
  have hz0 : W0.heap.size = w.heap.size + 1 := by rw [← hW0]; simp
  have g0 : W0.heap[w.heap.size]? = some (.cells #[.slice A0 zs.length c0] 36 (0, 0)) := by rw [← hW0]; exact heap_alloc_new w _
  have tb0 : TBox W0 Bi Bl Bq sA l.length sc i₀ to_ := ⟨(hb0.block _ (box_lt tb.i)).trans tb.i, (hb0.block _ (box_lt tb.l)).trans tb.l, (hb0.block _ (box_lt tb.t)).trans tb.t⟩
  have lbi := box_lt tb.i
  have lbl := box_lt tb.l
  have lbq := box_lt tb.t
  obtain ⟨F, hF⟩ : ∃ F : AFix, F = ⟨w, base, A0, zs, Bi⟩ := ⟨_, rfl⟩
  have hok : AFixOk F := by rw [hF]; exact ⟨hb, hbi, lbi, ai, fun g hg => (own_ob hz g hg).2⟩
  have h00 : AI F [] W0 := by
    rw [hF]
    refine ⟨A0, c0, ?_, ?_, .inl rfl, fun b hb' _ _ => hb0.block b hb', hb0.mono hb, ⟨_, tb0.i⟩⟩
    · dsimp only; rw [List.append_nil]; exact g0
    · dsimp only; rw [List.append_nil]; exact hz.below hb0 (Nat.le_refl _)
  have HF := hide hF
  have HOK := hide hok
  have H00 := hide h00
  have HTB := hide tb0
  have HZ0 := hide hz0
  have HBB := hide hb0
  have HGG := hide (And.intro ai (And.intro al aq))
  have HBL := hide (tb.l)
  have HBQ := hide (tb.t)
  obtain ⟨i0, hi0, hzz0, hzz1, hzz2⟩ := info_parts infoInt
  have HI0 := hide hi0
  have HI1 := hide hzz0
  have HI2 := hide hzz1
  have HI3 := hide hzz2
  clear hi0 hzz0 hzz1 hzz2 hF hok h00 tb0 hz0 hb0 hW0 g0 ai al aq tb
  gi_wp2_with fail
  refine range_box (n := 6) (by omega) (gf := 100) (lb := #[.pointer (some ⟨Bi, 0, none⟩), .pointer (some ⟨Bl, 0, none⟩), .pointer (some ⟨Bq, 0, none⟩)]) rfl (enters_of Try.func100 (by kernel_rfl) rfl) (by have := HZ0.out; omega)
    (times_box 5 n₀ Bi Bl Bq sA sc i₀ l to_ (by omega) (by omega) (by omega) h1 h2 W0 (by have := HZ0.out; omega) HTB.out hi (hA.keep fun p hp => HBB.out.cell (Nat.lt_of_lt_of_le hp (by omega))))
    (fun h k => h.trans k) (fun W l' o o' h3 _ _ _ => ⟨fun b hb => World.putObj_heap_other (by have := HZ0.out; omega), World.putObj_heap_other (by have := HZ0.out; omega), World.putObj_heap_other (by have := HZ0.out; omega), World.putObj_heap_other (by have := HZ0.out; omega)⟩) (fun _ => rfl)
    (fun pre W => AI F (vals pre) W) (fun _ _ _ => False)
    (fun s X Y row h3 h4 h5 => by obtain ⟨A, c, h6⟩ := h3; exact ⟨A, c, h6.from HOK.out h4 (fun r e => ⟨by have := (h5 r e).1; rw [HZ0.out] at this; rw [HF.out]; dsimp only; omega, (h5 r e).2⟩)⟩) (fun _ _ _ _ _ h3 _ _ => h3.elim)
    (fun s X h3 => by obtain ⟨A, c, h6⟩ := h3; exact ⟨fun v => ⟨A, c, by have := h6.free HOK.out v; rw [show F.Bi = Bi by rw [HF.out]] at this; exact this⟩, fun n => ⟨A, c, h6.drewN n⟩⟩) (fun _ _ _ h3 => h3.elim) H00.out
    (fun tx => { tmps := #[.slice A0 zs.length c0, .func (.func 100) #[] #[.pointer (some ⟨Bi, 0, none⟩), .pointer (some ⟨Bl, 0, none⟩), .pointer (some ⟨Bq, 0, none⟩)], .pointer (some ⟨w.heap.size, 0, none⟩), undef, .slice none 0 0, .int .i64 tx.1, .func (.func 100) #[] #[.pointer (some ⟨Bi, 0, none⟩), .pointer (some ⟨Bl, 0, none⟩), .pointer (some ⟨Bq, 0, none⟩)], .int .i64 tx.1, undef, undef, undef, undef, undef], defers := [] })
    ?assign ?body ?done ?stop
  case assign =>
    intro lp tx W K hK
    unfold tEnc
    gi_wp2
    exact hK
  case body =>
    rintro lp pre tx W hlp hlW ⟨A, c, hc⟩ hlen
    have hF := HF.out
    subst hF
    have HC := hide hc
    have hbx := hc.box
    dsimp only at hbx
    have c1 := box_cell hbx
    have hpl : (vals pre).length ≤ 24 := by rw [List.length_map]; omega
    obtain ⟨ts, hts⟩ : ∃ ts, vals pre = ts := ⟨_, rfl⟩
    rw [hts] at HC c1 hpl
    have hown : W.ownsRow base 3 1 (.slice A (zs ++ ts).length c) (zs ++ ts).length ((zs ++ ts).map (Value.int .i64)) := HC.out.own
    have hlz : (zs ++ ts).length ≤ 1000024 := by rw [List.length_append]; omega
    have HLZ := hide hlz
    have HTS := hide hts
    have HBS := hide (show base ≤ W.heap.size by have := HC.out.bel.size; dsimp only at this; omega)
    have HOWN := hide hown
    clear hc hbx hown hlz hpl hts
    obtain ⟨L, hL⟩ : ∃ L, (zs ++ ts).length = L := ⟨_, rfl⟩
    rw [hL] at c1
    have HL := hide hL
    clear hL
    gi_wp2_with (gi_at_builtin; (refine wpListIn_append_own_at _ rfl _ _ 36 rfl base 3 i0 (.int .i64 0) 1 8 Try.underlying36 HI0.out HI1.out HI2.out HI3.out rfl (by decide) (.slice A L c) L ((zs ++ ts).map (Value.int .i64)) rfl (by rw [← HL.out]; exact HOWN.out.alloc _) ⟨W.heap.size, 0, none⟩ 1 1 [.int .i64 tx.1] rfl rfl (fun j u hu => by rw [cells_push (cs := #[.int .i64 tx.1]) (t := 3) rfl]; simpa using hu) ?c2 ?c3 ?c4 ?c5 ?_))
    case c2 => simp [Value.oneCell']
    case c3 => have := HLZ.out; rw [HL.out] at this; unfold maxLen; omega
    case c4 => have := HLZ.out; rw [HL.out] at this; omega
    case c5 => have := HBS.out; simp; omega
    intro v' V3 hown3 hg4 _ hat4
    obtain ⟨g4, c4, rfl⟩ := ownsRow_succ hown3
    rw [← HL.out] at hown3 hg4 hat4
    rw [← List.append_assoc, ← List.map_append] at hown3
    obtain ⟨p1, p2, p3, p4, p5⟩ := HC.out.push HOK.out hown3 hg4 hat4
    dsimp only at p1 p2 p3 p4 p5
    rw [HL.out] at p1 p3 p4 p5
    have HFIN := hide (And.intro p3 (And.intro p4 p5))
    clear hown3 hg4 hat4 p3 p4 p5
    gi_wp2_with fail
    obtain ⟨p3, p4, p5⟩ := HFIN.out
    refine ⟨by rw [HZ0.out]; exact p4, ⟨fun b hb => p5 b (by omega) fun e => ?_, p5 Bi lbi HGG.out.1, p5 Bl lbl HGG.out.2.1, p5 Bq lbq HGG.out.2.2⟩, some ⟨g4, 0, none⟩, c4, ?_⟩
    · have := (own_ob hz b e).1
      omega
    · rw [← HTS.out] at p3
      simpa using p3
  case done =>
    rintro D xs W hD hxs ⟨A, c, hc⟩ hDm
    have hF := HF.out
    subst hF
    rw [hxs] at hc
    have hbx := hc.box
    dsimp only at hbx
    have c1 := box_cell hbx
    have HC := hide hc
    have HD := hide hDm
    clear hc hbx hDm
    gi_wp2_with fail
    refine ⟨by simp, .inl ⟨_, _, rfl, run_takeDeferred HD.out, ?_⟩⟩
    refine ⟨.slice A (zs ++ upTo l i₀ to_).length c, by simp [results, Try.f79, go_sem], A, c, rfl, ?_, HC.out.mv, fun b hb ha hn => ?_, ?_⟩
    · exact ownsRow_putObj HC.out.own _ HD.out rfl
    · rw [World.putObj_heap_other (by have := HZ0.out; omega)]
      exact HC.out.oth b hb ha hn
    · exact HC.out.bel.grown (grownBy_putObj' W D _) (by have h8 := HC.out.bel.size; have h9 := HOK.out.b0; dsimp only at h8 h9 ⊢; omega) (fun k e => by injection e with e; have h8 := HZ0.out; have h9 := HOK.out.b0; dsimp only at h9 ⊢; omega)
  case stop =>
    rintro D c pre W _ _ h3
    exact h3.elim

end Go.Proofs.Ytkbiefklilelmaa

/-
  match.input.starts: the times of a range at which ways can begin, in order, each once.
-/
namespace Go.Proofs.Ytkbiefklilelmaa
open Go.RowKit

/-- in order, each once: the times of S -/
def ListOf (S : Int → Prop) (ps : List Int) : Prop := ps.Pairwise (· < ·) ∧ ∀ t, t ∈ ps ↔ S t
/-- the times that the first k edges give -/
def StK (x : Inp) (from_ to_ : Int) (k : Nat) (t : Int) : Prop := from_ ≤ t ∧ t ≤ to_ ∧ ∃ i e, i < k ∧ x.edges[i]? = some e ∧ e.from_ = 0 ∧ t ∈ nth x.ev e.event
theorem stK_all {x : Inp} {from_ to_ t : Int} : StK x from_ to_ x.edges.length t ↔ StartS x from_ to_ t := by
  unfold StK StartS
  constructor
  · rintro ⟨h1, h2, i, e, _, h4, h5⟩
    exact ⟨h1, h2, e, List.mem_of_getElem? h4, h5⟩
  · rintro ⟨h1, h2, e, h4, h5⟩
    obtain ⟨i, hi⟩ := List.getElem?_of_mem h4
    exact ⟨h1, h2, i, e, (List.getElem?_eq_some_iff.1 hi).1, hi, h5⟩
theorem stK_succ {x : Inp} {from_ to_ : Int} {k : Nat} {e : Edg} (he : x.edges[k]? = some e) (t : Int) : StK x from_ to_ (k + 1) t ↔ StK x from_ to_ k t ∨ (e.from_ = 0 ∧ t ∈ nth x.ev e.event ∧ from_ ≤ t ∧ t ≤ to_) := by
  unfold StK
  constructor
  · rintro ⟨h1, h2, i, e', h3, h4, h5, h6⟩
    rcases Nat.lt_or_ge i k with h7 | h7
    · exact .inl ⟨h1, h2, i, e', h7, h4, h5, h6⟩
    · have : i = k := by omega
      subst this
      rw [he] at h4
      injection h4 with h4
      subst h4
      exact .inr ⟨h5, h6, h1, h2⟩
  · rintro (⟨h1, h2, i, e', h3, h4, h5⟩ | ⟨h5, h6, h1, h2⟩)
    · exact ⟨h1, h2, i, e', by omega, h4, h5⟩
    · exact ⟨h1, h2, k, e, by omega, he, h5, h6⟩
theorem stK_zero {x : Inp} {from_ to_ t : Int} : ¬ StK x from_ to_ 0 t := fun ⟨_, _, _, _, h, _⟩ => absurd h (Nat.not_lt_zero _)

def StRel (x : MIn) (from_ to_ : Int) (W : World) (out i : Value) (wr : World) : Prop :=
  ∃ (k : Nat) (A : Option Addr) (c : Nat) (zs : List Int), k ≤ x.a.edges.length ∧ i = .int .i64 k ∧ out = .slice A zs.length c ∧ OwnInt wr W.heap.size A c zs ∧ Below W.heap.size W wr ∧ zs.length ≤ 24 * k ∧ ∀ t, t ∈ zs ↔ StK x.inp from_ to_ k t

set_option maxRecDepth 100000 in
set_option maxHeartbeats 4000000 in
theorem starts_any (x : MIn) (from_ to_ : Int) (w : World) (h : MAt w x) (ok : MOk x) :
    Calls Try.prog 57 #[.agg (encX x).toArray, .int .i64 from_, .int .i64 to_] w (RetInts w (ListOf (StartS x.inp from_ to_))) := by
  obtain ⟨x', hx'⟩ : ∃ x', x = x' := ⟨_, rfl⟩
  have HOK := hide ok
  have l1 := ok.few
  have l2 := ok.nev
  obtain ⟨W0, hW0⟩ : ∃ W0, w.alloc (.cells (encX x).toArray 83) = W0 := ⟨_, rfl⟩
  have g0 := new_at hW0
  have hb0 : Below w.heap.size w W0 := by rw [← hW0]; exact (Below.refl _ _).alloc (Nat.le_refl _) _
  have HM := hide (h.step hb0)
  have HB0 := hide hb0
  have HG0 := hide g0
  rw [hx'] at HOK HM HG0 hW0 ⊢
  obtain ⟨⟨AE, nE, cE, AC, nC, cC, AF, cF, fin, AX, cX, edges⟩, AV, cV, ev, AS, cS, cs, en⟩ := x
  dsimp only at l1 l2
  have HX := hide hx'
  have hX : encX x' = [.slice AE nE cE, .slice AC nC cC, .slice AF fin.length cF, .slice AX edges.length cX, .slice AV ev.length cV, .slice AS cs.length cS, .int .i64 en] := by rw [← hx']; rfl
  have HEX := hide hX
  rw [hX] at hW0 ⊢
  have HW0 := hide hW0
  clear h ok hX hx' hW0 g0 hb0
  go_enter Try.func57, Try.ntmps57
  go_upto_region 1 with (fail)
  rw [HW0.out]
  have u0 := HG0.out
  rw [HEX.out] at u0
  obtain ⟨-, -, -, x3, -, -, -⟩ := box7 u0
  clear u0
  go_wp2_with fail
  go_loopw [7, 14] (fun out i wr => StRel x' from_ to_ W0 out i wr) (fun _ i _ => edges.length - (intOf i).toNat)
  case atStart => exact ⟨0, none, 0, [], Nat.zero_le _, rfl, rfl, OwnInt.nil _ _, Below.refl _ _, by simp, fun t => ⟨fun h => by simp at h, fun h => absurd h stK_zero⟩⟩
  case round =>
    obtain ⟨k, A, c, zs, hk, rfl, rfl, hown, hbr, hzl, hmem⟩ := hrel
    have hk' : k ≤ edges.length := by rw [← HX.out] at hk; exact hk
    have HOWN := hide hown
    have HBR := hide hbr
    have HZL := hide hzl
    have HMEM := hide hmem
    clear hk hown hbr hzl hmem x3
    by_cases hlt : k < edges.length
    · obtain ⟨be, oe, bv, ov, j, s, f, t, wh, lo, hi, ea⟩ := edge_at HOK.out (HM.out.step HBR.out) (k := k) (by rw [← HX.out]; exact hlt)
      have ax := ea.ax
      have av := ea.av
      rw [← HX.out] at ax av
      dsimp only at ax av
      subst ax av
      obtain ⟨sA, sc, l⟩ := s
      have EA := hide ea
      obtain ⟨-, -, get, e0, e1, e2, e3, e4, e5, -, -, -, hnth, get2, len, hincr, -, -, -⟩ := ea
      have GET := hide get
      have NTH := hide hnth
      have GET2 := hide get2
      have INC := hide hincr
      dsimp only at len
      clear get hnth get2 hincr
      obtain ⟨W1, hW1⟩ : ∃ W1 : World, wr.alloc (.cells #[.int .i64 f, .int .i64 t, .int .i64 (j : Int), .int .i64 wh, .int .i64 lo, .int .i64 hi] 81) = W1 := ⟨_, rfl⟩
      have g1 := new_at hW1
      have hb1 : Below wr.heap.size wr W1 := by rw [← hW1]; exact (Below.refl _ _).alloc (Nat.le_refl _) _
      obtain ⟨f0, f1, f2, f3, f4, f5⟩ := box6 g1
      have HB1 := hide (bstep HBR.out hb1)
      have HOWN1 := hide (HOWN.out.below hb1 (Nat.le_refl _))
      have u0 := (HB1.out.block _ (box_lt HG0.out)).trans HG0.out
      rw [HEX.out] at u0
      obtain ⟨x0, x1, x2, x3, x4, x5, x6⟩ := box7 u0
      have HW1 := hide hW1
      have hkn : k + 1 ≤ x'.a.edges.length := by rw [← HX.out]; exact hlt
      have HKN := hide hkn
      clear hkn hW1 g1 u0 hb1 EA
      go_upto_region 5 with (fail)
      rw [HW1.out]
      generalize wr.heap.size = Be at *
      clear e0 e1 e2 e3 e4 e5
      by_cases hf : f = 0
      · have T1 : (f == 0) = true := beq_iff_eq.2 hf
        have HF := hide hf
        clear hf
        have hgt : x'.ev[j]'(List.getElem?_eq_some_iff.1 GET2.out).1 = ⟨sA, sc, l⟩ := (List.getElem?_eq_some_iff.1 GET2.out).2
        have ht := times_any x' j (List.getElem?_eq_some_iff.1 GET2.out).1 (j : Int) from_ to_ rfl W1 (HM.out.step HB1.out) (by rw [hgt]; dsimp only; omega) (by rw [hgt]; exact INC.out.1) (by rw [← HX.out]; dsimp only; omega)
        rw [HEX.out, hgt] at ht
        dsimp only at ht
        have HT := hide ht
        clear ht hgt
        go_wp2_with fail
        refine HT.out.mono ?_
        rintro e w4 ⟨Bi, Bl, Bq, rfl, hb4, hBi, hBl, hBq, hne1, hne2, tb⟩
        have hown4 := HOWN1.out.below hb4 (Nat.le_refl _)
        have hlo : ∀ g, ob A = some g → g < W1.heap.size := fun g hg => (own_ob HOWN1.out g hg).2
        have has := appseq_any W0.heap.size W0.heap.size Bi Bl Bq A c zs sA sc (l.countP (· < from_)) l to_ w4 hown4 (Nat.le_trans HB1.out.size hb4.size) (by have := HZL.out; omega) len List.countP_le_length tb (Nat.le_refl _)
          ((HM.out.ev.each ⟨sA, sc, l⟩ (List.mem_of_getElem? GET2.out)).below (bstep HB1.out hb4)) (Nat.le_trans HB1.out.size hBi) hne1 hne2 (fun e => by have := hlo _ e; omega) (fun e => by have := hlo _ e; omega) (fun e => by have := hlo _ e; omega)
        have HAS := hide has
        have HB4 := hide (bstep HB1.out hb4)
        clear has hown4 hlo tb hb4 hBi hBl hBq hne1 hne2 f0 f1 f2 f3 f4 f5 x0 x1 x2 x3 x4 x5 x6
        obtain ⟨ts, hts⟩ : ∃ ts, upTo l (l.countP (· < from_)) to_ = ts := ⟨_, rfl⟩
        have htl : ts.length ≤ 24 := by rw [← hts]; exact Nat.le_trans (upTo_len _ _ _) len
        have HTM := hide (show ∀ u, u ∈ ts ↔ u ∈ l ∧ from_ ≤ u ∧ u ≤ to_ from fun u => by rw [← hts]; exact upTo_mem INC.out.1)
        rw [hts] at HAS
        clear hts
        go_wp2_with fail
        refine HAS.out.mono ?_
        rintro e w5 ⟨A5, c5, rfl, hown5, -, -, hb5⟩
        have HN := hide (show ∀ u, u ∈ zs ++ ts ↔ StK x'.inp from_ to_ (k + 1) u from fun u => by
          rw [stK_succ GET.out, List.mem_append, HMEM.out, HTM.out, show nth x'.inp.ev (j : Int) = l from NTH.out]
          refine or_congr_right ⟨fun h => ⟨HF.out, h⟩, fun h => h.2⟩)
        have hzt : (zs ++ ts).length ≤ 24 * (k + 1) := by rw [List.length_append]; have := HZL.out; omega
        have HZT := hide hzt
        have HOWN5 := hide hown5
        have HB5 := hide (HB4.out.trans hb5)
        clear hzt hown5 hb5 HAS HTM htl
        generalize zs ++ ts = us at *
        go_wp2_with fail
        exact ⟨⟨k + 1, A5, c5, us, HKN.out, by go_num, rfl, HOWN5.out, HB5.out, HZT.out, HN.out⟩, by simp [intOf]; omega⟩
      · have T1 : (f == 0) = false := beq_eq_false_iff_ne.2 hf
        have HN := hide (show ∀ u, u ∈ zs ↔ StK x'.inp from_ to_ (k + 1) u from fun u => by
          rw [stK_succ GET.out, HMEM.out]
          exact ⟨.inl, fun h => h.elim id fun h => absurd h.1 hf⟩)
        clear hf
        go_wp2_with fail
        exact ⟨⟨k + 1, A, c, zs, HKN.out, by go_num, rfl, HOWN1.out, HB1.out, by have := HZL.out; omega, HN.out⟩, by simp [intOf]; omega⟩
    · have hke : k = edges.length := by omega
      subst hke
      have hsl : (zs.mergeSort fun x y => decide (x ≤ y)).length = zs.length := List.length_mergeSort _
      have HSL := hide hsl
      have hz960 : zs.length ≤ 960 := by have := HZL.out; omega
      clear hsl
      go_wp2_with fail
      refine (sortInts_any W0.heap.size A c zs _ HOWN.out (by omega) HBR.out.size).mono ?_
      rintro e w2 ⟨rfl, hown2, hb2⟩
      have hss := mergeSort_sorted zs
      have hsm : ∀ v, v ∈ (zs.mergeSort fun x y => decide (x ≤ y)) ↔ v ∈ zs := fun v => List.mem_mergeSort
      rw [← HSL.out] at hz960 ⊢
      generalize (zs.mergeSort fun x y => decide (x ≤ y)) = ys at *
      have HSM := hide hsm
      have HSS := hide hss
      clear hsm hss
      go_wp2_with fail
      refine (compactInts_any W0.heap.size A c ys _ hown2 (by omega) (Nat.le_trans HBR.out.size hb2.size)).mono ?_
      rintro e w3 ⟨rfl, hown3, hb3⟩
      go_wp2_with fail
      go_ret
      exact ⟨A, c, Lib.compact ys, rfl, hown3.lower HB0.out.size, HB0.out.trans ((HBR.out.trans (hb2.trans hb3)).mono HB0.out.size), compact_sorted ys HSS.out, fun v => by
        rw [compact_mem, HSM.out, HMEM.out, ← stK_all]
        have e9 : x'.inp.edges.length = edges.length := by rw [← HX.out]; rfl
        rw [e9]⟩

end Go.Proofs.Ytkbiefklilelmaa

/-
  Ranging over a map of pairs: which pairs have come.
-/
namespace Go.Proofs.Ytkbiefklilelmaa
open Go.RowKit

/-- the pairs that have come -/
def Vis (m : Int → Int → Prop) (left : Lit → Bool) (s t : Int) : Prop := m s t ∧ left (kL s t) = false
def HoldsP (D : DataW Unit) (m : Int → Int → Prop) : Prop := ∀ s t, I64 s → I64 t → (¬ m s t → Maps.has D (kL s t) = false) ∧ (m s t → Maps.has D (kL s t) = true ∧ ∀ z, D.atKey (kL s t) z = .lit (.bool true))
theorem vis_start {D : DataW Unit} {m : Int → Int → Prop} (hD : HoldsP D m) (h64 : ∀ s t, m s t → I64 s ∧ I64 t) (s t : Int) : ¬ Vis m (Maps.has D) s t := fun ⟨h1, h2⟩ => by
  obtain ⟨h3, h4⟩ := h64 s t h1
  rw [((hD s t h3 h4).2 h1).1] at h2
  cases h2
theorem vis_end {m : Int → Int → Prop} {left : Lit → Bool} (h : ∀ kl, left kl = false) (s t : Int) : Vis m left s t ↔ m s t := ⟨fun h1 => h1.1, fun h1 => ⟨h1, h _⟩⟩
theorem same_kL (s t : Int) : (kL s t).sameKey (kL s t) = true := by simp [kL, Lit.sameKey]
theorem vis_step {m : Int → Int → Prop} (h64 : ∀ s t, m s t → I64 s ∧ I64 t) {left : Lit → Bool} {s t : Int} (hm : m s t) (s' t' : Int) :
    Vis m (fun z => left z && !z.sameKey (kL s t)) s' t' ↔ Vis m left s' t' ∨ (s' = s ∧ t' = t) := by
  unfold Vis
  constructor
  · rintro ⟨h1, h2⟩
    by_cases e : s' = s ∧ t' = t
    · exact .inr e
    · left
      refine ⟨h1, ?_⟩
      have hne : kL s' t' ≠ kL s t := fun h => e (kL_inj (h64 _ _ h1).1 (h64 _ _ h1).2 (h64 _ _ hm).1 (h64 _ _ hm).2 h)
      dsimp only at h2
      rw [Maps.sameKey_ne hne] at h2
      simpa using h2
  · rintro (⟨h1, h2⟩ | ⟨rfl, rfl⟩)
    · exact ⟨h1, by dsimp only; rw [h2]; rfl⟩
    · exact ⟨hm, by dsimp only; rw [same_kL]; simp⟩
/-- keys and elements, in structures of their own (so that the walk takes no quantifier over them apart) -/
structure KP where
  s : Int
  t : Int
structure BV where
  b : Bool
def mkKP (p : KP) : Value := pairV p.s p.t
def mkBV (b : BV) : Value := .bool b.b
/-- what has come is a pair of the set -/
theorem come_pair {D : DataW Unit} {m : Int → Int → Prop} (hD : HoldsP D m) {x : KP} {kl : Lit} {d : DataW Unit} (hkey : keyOf Try.prog 112 (mkKP x) = some kl) (hat : ∀ zd, D.atKey kl zd = d) : kl = kL x.s x.t ∧ I64 x.s ∧ I64 x.t ∧ m x.s x.t := by
  obtain ⟨st, e1, h1, h2, rfl⟩ := keyOf_pair_inv hkey
  unfold mkKP pairV at e1
  have e2 : x.s = st.1 ∧ x.t = st.2 := by simpa using e1
  rw [← e2.1] at h1
  rw [← e2.2] at h2
  rw [← e2.1, ← e2.2] at hat ⊢
  refine ⟨rfl, h1, h2, Classical.byContradiction fun hn => ?_⟩
  have := (hD _ _ h1 h2).1 hn
  rw [Maps.has_true_of_atKey hat] at this
  cases this
theorem invPair (key : Value) (kl : Lit) (h : keyOf Try.prog 112 key = some kl) : ∃ x : KP, key = mkKP x := by
  obtain ⟨st, e, _⟩ := keyOf_pair_inv h
  exact ⟨⟨st.1, st.2⟩, e⟩
theorem invBool (v : Value) (y : DataW Unit × List MemPlace) (h : plainElem Try.prog 4 v = some y) : ∃ c : BV, v = mkBV c := by
  obtain ⟨c, e, _⟩ := elem_bool_inv Try.underlying4 h
  exact ⟨⟨c⟩, e⟩

end Go.Proofs.Ytkbiefklilelmaa

/-
  match.input.ends: the least time at which a final state has been reached.
-/
namespace Go.Proofs.Ytkbiefklilelmaa
open Go.RowKit

/-- the final times among some pairs -/
def FinOf (fin : List Bool) (V : Int → Int → Prop) (t : Int) : Prop := ∃ s : Int, V s t ∧ fin.getD s.toNat false = true
/-- what is known of the least one -/
def LeastB (S : Int → Prop) (v : Int) (ok : Bool) : Prop := (ok = true → LeastOf S v) ∧ (ok = false → ∀ t, ¬ S t)
theorem LeastB.skip {fin : List Bool} {V V' : Int → Int → Prop} {v s t : Int} {ok : Bool} (h : LeastB (FinOf fin V) v ok) (hV : ∀ a b, V' a b ↔ V a b ∨ (a = s ∧ b = t)) (hs : fin.getD s.toNat false = false ∨ (ok = true ∧ v ≤ t)) : LeastB (FinOf fin V') v ok := by
  have key : ∀ u, FinOf fin V' u → FinOf fin V u ∨ (fin.getD s.toNat false = true ∧ u = t) := by
    rintro u ⟨a, ha, hf⟩
    rcases (hV a u).1 ha with h1 | ⟨rfl, rfl⟩
    · exact .inl ⟨a, h1, hf⟩
    · exact .inr ⟨hf, rfl⟩
  have more : ∀ u, FinOf fin V u → FinOf fin V' u := fun u ⟨a, ha, hf⟩ => ⟨a, (hV a u).2 (.inl ha), hf⟩
  refine ⟨fun e => ⟨more _ (h.1 e).1, fun u hu => ?_⟩, fun e u hu => ?_⟩
  · rcases key u hu with h1 | ⟨h1, rfl⟩
    · exact (h.1 e).2 u h1
    · rcases hs with h2 | ⟨_, h2⟩
      · rw [h1] at h2; cases h2
      · exact h2
  · rcases key u hu with h1 | ⟨h1, rfl⟩
    · exact h.2 e u h1
    · rcases hs with h2 | ⟨h2, _⟩
      · rw [h1] at h2; cases h2
      · rw [e] at h2; cases h2
theorem LeastB.take {fin : List Bool} {V V' : Int → Int → Prop} {v s t : Int} {ok : Bool} (h : LeastB (FinOf fin V) v ok) (hV : ∀ a b, V' a b ↔ V a b ∨ (a = s ∧ b = t)) (hf : fin.getD s.toNat false = true) (hs : ok = false ∨ t < v) : LeastB (FinOf fin V') t true := by
  refine ⟨fun _ => ⟨⟨s, (hV s t).2 (.inr ⟨rfl, rfl⟩), hf⟩, fun u hu => ?_⟩, fun e => by cases e⟩
  obtain ⟨a, ha, hf'⟩ := hu
  rcases (hV a u).1 ha with h1 | ⟨_, rfl⟩
  · cases ok with
    | false => exact absurd ⟨a, h1, hf'⟩ (h.2 rfl u)
    | true =>
      have h2 := (h.1 rfl).2 u ⟨a, h1, hf'⟩
      rcases hs with h3 | h3
      · cases h3
      · omega
  · exact Int.le_refl _
def EndsPost (fin : List Bool) (m : Int → Int → Prop) (w : World) (e : Ending) (w' : World) : Prop := ∃ (v : Int) (ok : Bool), e = .returned (.tuple #[.int .i64 v, .bool ok]) ∧ LeastB (FinOf fin m) v ok ∧ Below w.heap.size w w'
def EndsRel (fin : List Bool) (m : Int → Int → Prop) (B r n : Nat) (D : DataW Unit) (w : World) (least ok : Value) (wr : World) : Prop :=
  ∃ (left : Lit → Bool) (cnt : Nat) (v : Int) (b : Bool), wr.ranges Try.prog 112 (plainElem Try.prog 4) B r n D left cnt ∧ least = .int .i64 v ∧ ok = .bool b ∧ LeastB (FinOf fin (Vis m left)) v b ∧ Below w.heap.size w wr

set_option maxRecDepth 100000 in
set_option maxHeartbeats 4000000 in
theorem ends_any (x : MIn) (B n : Nat) (m : Int → Int → Prop) (w : World) (h : MAt w x) (hm : MapP w B n m) (h64 : ∀ s t, m s t → I64 s ∧ I64 t) (hin : ∀ s t, m s t → 0 ≤ s ∧ s < x.a.fin.length) (hfl : x.a.fin.length ≤ 33) :
    Calls Try.prog 58 #[.agg (encX x).toArray, .map (some B)] w (EndsPost x.a.fin m w) := by
  obtain ⟨D, hown, hD⟩ := hm
  have HD := hide (show HoldsP D m from hD)
  have H64 := hide h64
  have HIN := hide hin
  obtain ⟨⟨AE, nE, cE, AC, nC, cC, AF, cF, fin, AX, cX, edges⟩, AV, cV, ev, AS, cS, cs, en⟩ := x
  dsimp only [encX, encA, List.cons_append, List.nil_append] at *
  obtain ⟨W0, hW0⟩ : ∃ W0, w.alloc (.cells #[.slice AE nE cE, .slice AC nC cC, .slice AF fin.length cF, .slice AX edges.length cX, .slice AV ev.length cV, .slice AS cs.length cS, .int .i64 en] 83) = W0 := ⟨_, rfl⟩
  have g0 := new_at hW0
  have hb0 : Below w.heap.size w W0 := by rw [← hW0]; exact (Below.refl _ _).alloc (Nat.le_refl _) _
  have hfin := (h.step hb0).aut.fin
  dsimp only at hfin
  have hown0 : W0.ownsMap Try.prog 112 (plainElem Try.prog 4) B n D := by rw [← hW0]; exact hown.alloc _
  have HG0 := hide g0
  have HB0 := hide hb0
  have HFIN := hide hfin
  have HW0 := hide hW0
  clear hD h64 hin h hown hW0 g0 hb0 hfin
  go_enter Try.func58, Try.ntmps58
  go_upto_region 1 with (fail)
  rw [HW0.out]
  go_wp2_with (at_range; (refine wpList_range_own _ rfl _ 89 rfl 112 4 pairKey Try.underlying89 _ B n D rfl hown0 ?_); intro w1 hrg1 hg1 hs1)
  go_frame
  have hbw1 : Below W0.heap.size W0 w1 := (Below.refl _ _).grown hg1 (Nat.le_refl _) (fun k e => by cases e)
  have HSTART := hide (show EndsRel fin m B W0.heap.size n D W0 (.int .i64 0) (.bool false) w1 from ⟨_, _, 0, false, hrg1, rfl, rfl, ⟨(fun e => by cases e), fun _ t ⟨s, hs, _⟩ => vis_start HD.out H64.out s t hs⟩, hbw1⟩)
  have hBl := hown0.lt
  clear hrg1 hg1 hs1 hbw1 hown0
  go_loopw [6, 7] (fun a b wr => EndsRel fin m B W0.heap.size n D W0 a b wr) (fun _ _ wr => wr.rangeLeft B W0.heap.size)
  case atStart => exact HSTART.out
  case round =>
    obtain ⟨left, cnt, v, ok, hrg, rfl, rfl, hlb, hbr⟩ := hrel
    have HLB := hide hlb
    have HBR := hide hbr
    have HRG := hide hrg
    clear hlb hbr HSTART
    go_wp2_with (at_next; refine wpList_next_ranges _ rfl _ rfl 112 pairKey _ mkKP mkBV invPair invBool B W0.heap.size n D left cnt rfl hrg ?_ ?_)
    · intro _ hl0
      have HE := hide (show LeastB (FinOf fin m) v ok from by
        have h1 := HLB.out
        have h2 : ∀ t, FinOf fin (Vis m left) t ↔ FinOf fin m t := fun t => ⟨fun ⟨s, h3, h4⟩ => ⟨s, h3.1, h4⟩, fun ⟨s, h3, h4⟩ => ⟨s, ⟨h3, hl0 _⟩, h4⟩⟩
        exact ⟨fun e => (h1.1 e).congr h2, fun e t h3 => h1.2 e t ((h2 t).2 h3)⟩)
      clear hl0 hrg
      go_wp2_with fail
      go_ret2
      exact ⟨v, ok, rfl, HE.out, bstep HB0.out HBR.out⟩
    · intro xk xv kl ya yb w2 cnt2 hkey hlk hv hat hrg2 hlt hg2 hs2 hen
      obtain ⟨rfl, hx1, hx2, hmx⟩ := come_pair HD.out hkey hat
      have hb2 := HBR.out.grown hg2 HBR.out.size (fun k e => by injection e with e; omega)
      have HVS := hide (fun a b => vis_step H64.out hmx a b (left := left))
      have HI := hide (HIN.out _ _ hmx)
      have HRG2 := hide hrg2
      have HLT := hide hlt
      have HB2 := hide hb2
      clear hkey hlk hv hat hrg2 hlt hg2 hs2 hb2 hmx hrg
      obtain ⟨ks, kt⟩ := xk
      obtain ⟨xv⟩ := xv
      unfold mkKP mkBV pairV at hen
      unfold mkKP mkBV pairV
      dsimp only at hx1 hx2 hen HI HVS ⊢
      obtain ⟨i, hki⟩ := Int.eq_ofNat_of_zero_le HI.out.1
      subst hki
      have hil : i < fin.length := by have := HI.out.2; omega
      obtain ⟨fb, fo, hAF, hfb, q0⟩ := ((HFIN.out.stay (stay_below HB2.out fun _ h => h)).more fun _ hb' => Nat.lt_of_lt_of_le hb' HB2.out.size).bool_at hil
      subst hAF
      obtain ⟨W3, hW3⟩ : ∃ W3 : World, w2.alloc (.cells #[.int .i64 (i : Int), .int .i64 kt] 112) = W3 := ⟨_, rfl⟩
      have g3 := new_at hW3
      have hb3 : Below w2.heap.size w2 W3 := by rw [← hW3]; exact (Below.refl _ _).alloc (Nat.le_refl _) _
      obtain ⟨p0, p1, -, -⟩ := box2 g3
      have HB3 := hide (bstep HB2.out hb3)
      have HRG3 := hide (show W3.ranges Try.prog 112 (plainElem Try.prog 4) B W0.heap.size n D (fun z => left z && !z.sameKey (kL (i : Int) kt)) cnt2 by rw [← hW3]; exact HRG2.out.alloc _)
      obtain ⟨-, -, x2, -, -, -, -⟩ := box7 ((HB3.out.block _ (box_lt HG0.out)).trans HG0.out)
      have q1 := (hb3.cell (p := ⟨fb, fo + i, none⟩) hfb).trans q0
      have HGD := hide (show fin.getD (i : Int).toNat false = fin[i] by rw [Int.toNat_natCast, List.getD_eq_getElem?_getD, List.getElem?_eq_getElem hil]; rfl)
      have HMS := hide (show W3.rangeLeft B W0.heap.size < wr.rangeLeft B W0.heap.size by rw [HRG3.out.left_eq, HRG.out.left_eq]; exact HLT.out)
      generalize fin[i] = fi at *
      have HW3 := hide hW3
      clear hW3 g3 hb3 q0
      go_upto_region 5 with (fail)
      rw [HW3.out]
      clear hen
      generalize w2.heap.size = Bk at *
      cases fi with
      | false =>
        have HN := hide (HLB.out.skip HVS.out (.inl HGD.out))
        go_wp2_with fail
        exact ⟨⟨_, cnt2, v, ok, HRG3.out, rfl, rfl, HN.out, HB3.out⟩, HMS.out⟩
      | true =>
        cases ok with
        | false =>
          have HN := hide (HLB.out.take HVS.out HGD.out (.inl rfl))
          go_wp2_with fail
          exact ⟨⟨_, cnt2, kt, true, HRG3.out, rfl, rfl, HN.out, HB3.out⟩, HMS.out⟩
        | true =>
          by_cases hlt : kt < v
          · have T1 : decide (kt < v) = true := decide_eq_true hlt
            have HN := hide (HLB.out.take HVS.out HGD.out (.inr hlt))
            clear hlt
            go_wp2_with fail
            exact ⟨⟨_, cnt2, kt, true, HRG3.out, rfl, rfl, HN.out, HB3.out⟩, HMS.out⟩
          · have T1 : decide (kt < v) = false := decide_eq_false hlt
            have HN := hide (HLB.out.skip HVS.out (.inr ⟨rfl, by omega⟩))
            clear hlt
            go_wp2_with fail
            exact ⟨⟨_, cnt2, v, true, HRG3.out, rfl, rfl, HN.out, HB3.out⟩, HMS.out⟩

end Go.Proofs.Ytkbiefklilelmaa
