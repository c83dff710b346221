/-
  Several texts in one: RAt, COf, RangeRelA. Each says at its head what it holds.
-/
import Derived.Test.YtbhcmnfeeogdhaaGreatDoorES13
import Derived.Test.YtbhcmnfeeogdhaaGreatDoorES10
import Derived.Test.YtbhcmnfeeogdhaaGreatDoorES17
import Derived.Test.YtbhcmnfeeogdhaaGreatDoorES14
import Derived.Deep.RegionLaw
import Derived.Test.YtbhcmnfeeogdhaaGreatDoorES11
import Derived.Test.YtbhcmnfeeogdhaaGreatDoorES5
import Derived.Test.YtbhcmnfeeogdhaaGreatDoorShelf
import Derived.Lib.OwnBridge
import Derived.Deep.DeepCutAuto
import Derived.Deep.CutBlock
import Derived.Test.YtbhcmnfeeogdhaaGreatDoorES9

/-
  wavestoreref51.At: the value of a tree at a time.
-/
namespace Go.Proofs.YtbhcmnfeeogdhaaGreatDoor
open Go.RowKit

def AtRel (env : Int → ByteArray) (l : List Nd) (w : World) (o i : Value) (wr : World) : Prop :=
  ∃ (j : Nat) (A : Option Addr) (c : Nat), j ≤ l.length ∧ i = .int .i64 (j : Int) ∧ o = .slice A j c ∧ OwnStr wr w.heap.size A c ((l.take j).map (valF env)) ∧ Below w.heap.size w wr
/-- a wave in a box -/
theorem wv_held {W0 : World} {N : Nat} {a0 a1 a2 : Value} {t : TypeId} (h0 : W0.heap[N]? = some (.cells #[a0, a1, a2] t (0, 0))) (W : World) (hb : Below W0.heap.size W0 W) : W.cell? ⟨N, 0, none⟩ = some a0 ∧ W.cell? ⟨N, 1, none⟩ = some a1 ∧ W.cell? ⟨N, 2, none⟩ = some a2 := by
  have g0 := (hb.block _ (box_lt h0)).trans h0
  refine ⟨?_, ?_, ?_⟩
  all_goals (rw [cell_of_row W N _ _ t (0, 0) g0]; rfl)
theorem SigsAt.up {w w' : World} {A : Option Addr} {l : List Sgn} (h : SigsAt w (Lo w.heap.size) A l) (hb : Below w.heap.size w w') : SigsAt w' (Lo w'.heap.size) A l := ⟨h.row.grow hb, fun s hs => (h.each s hs).grow hb⟩

theorem str_empty (W : World) {base : Nat} (hb : base ≤ W.heap.size) : OwnStr (W.alloc (.cells #[] 9)) base (some ⟨W.heap.size, 0, none⟩) 0 [] := World.ownsRow_lit W #[] 0 hb (by simp [maxLen]) rfl

set_option maxRecDepth 100000 in
set_option maxHeartbeats 8000000 in
theorem rat_any (v : Wv) (t : Int) (hv : SmallOk v) (n : Nd) : ∀ w : World, SigsAt w (Lo w.heap.size) v.A v.sigs → TreesAt w (Lo w.heap.size) n.KA n.kids → okF n → Siz (envW v t) n → (∀ x ∈ sigF n, 0 ≤ x ∧ x < v.sigs.length) →
    Calls Tryz.prog 43 #[.agg (cWv v).toArray, .agg (cNd n).toArray, .int .i64 t] w (RetV (.string (valF (envW v t) n)) w) := by
  obtain ⟨i0, hi0, hz0, hz1, hz2⟩ := info_parts infoStr
  induction n using Nd.ind with
  | h n ih =>
  intro w hS ht hok hsz hsg
  have IH := hide ih
  have HOK := hide ((okF_eq n).1 hok)
  have HSZ := hide ((Siz_eq _ n).1 hsz)
  have HSK := hide (show ∀ k ∈ n.kids, ∀ x ∈ sigF k, 0 ≤ x ∧ x < v.sigs.length from fun k hk x hx => hsg x (sig_kid hk hx))
  have HSA := hide (show n.kind = 1 → 0 ≤ n.a ∧ n.a < v.sigs.length from fun k1 => hsg n.a (by rw [sigF_eq]; unfold sigB; simp [k1]))
  clear ih hok hsz hsg
  have HS := hide hS
  obtain ⟨v', hv'⟩ : ∃ v', v' = v := ⟨_, rfl⟩
  obtain ⟨kind, at_, name, value, a, b, c, d, KA, kc, kids⟩ := n
  unfold Nd.KA Nd.kids at ht
  dsimp only [Nd.kind, Nd.a, Nd.b, Nd.c, Nd.d, Nd.kids] at HOK HSZ HSK HSA
  unfold cNd
  have hl := ht.len
  obtain ⟨env, henv⟩ : ∃ env, envW v t = env := ⟨_, rfl⟩
  rw [henv] at IH HSZ ⊢
  have HENV := hide henv
  obtain ⟨A, cA, sigs, G, gn, cG, fin⟩ := v
  unfold cWv at IH ⊢
  dsimp only at IH HS HSK HSA ⊢
  obtain ⟨W0, hW0⟩ : ∃ W0, (w.alloc (.cells #[.slice A sigs.length cA, .slice G gn cG, .int .i64 fin] 27)).alloc (.cells #[.int .i64 kind, .int .i64 at_, .string name, .string value, .int .i64 a, .int .i64 b, .int .i64 c, .int .i64 d, .slice KA kids.length kc] 30) = W0 := ⟨_, rfl⟩
  obtain ⟨p0, p1, hb0⟩ := chain2 _ _ _ hW0
  have HT := hide (ht.grow hb0)
  have HS0 := hide (HS.out.up hb0)
  have HH := hide (wv_held p0)
  have HG1 := hide p1
  have HB0 := hide hb0
  have HW0 := hide hW0
  obtain ⟨q0, q1, q2⟩ := HH.out W0 (Below.refl _ _)
  obtain ⟨y0, y1, y2, y3, y4, y5, y6, y7, y8⟩ := box9 p1
  have HQ := hide (show ∀ (o : ByteArray) (wr : World), valF env (.mk kind at_ name value a b c d KA kc kids) = o → Below W0.heap.size W0 wr → RetV (.string (valF env (.mk kind at_ name value a b c d KA kc kids))) w (.returned (.string o)) wr from fun o wr h hb => ⟨by rw [h], bstep HB0.out hb⟩)
  have HEQ := hide (valF_mk env kind at_ name value a b c d KA kc kids)
  clear ht hb0 hW0 p0 p1 hS henv
  go_enter Tryz.func43, Tryz.ntmps43
  go_upto_region 1 with (fail)
  rw [HW0.out]
  by_cases k1 : kind = 1
  · subst k1
    rw [if_pos rfl] at HEQ
    obtain ⟨a0, a1⟩ := HSA.out rfl
    obtain ⟨ai, rfl⟩ : ∃ ai : Nat, a = (ai : Int) := ⟨a.toNat, by omega⟩
    have hai : ai < sigs.length := by omega
    obtain ⟨bk, ok, rfl, hbk, hc⟩ := HS0.out.row.at_ hai
    have hrow := HS0.out.each _ (List.getElem_mem hai)
    have hsk := hv.each _ (List.getElem_mem hai)
    have hval : env (ai : Int) = valS sigs[ai] t := by
      rw [← HENV.out]
      unfold envW sgnAt
      simp [List.getElem?_eq_getElem hai]
    have hcall := fun (W : World) (hb : Below W0.heap.size W0 W) => rvalue_any sigs[ai] t W (fun h => by have := (hsk.width.1 h); omega) (by have := hsk.len; omega) (hrow.grow hb)
    generalize sigs[ai] = s at *
    obtain ⟨sk, sw, sA, sc, chs⟩ := s
    unfold cSgn at hc
    dsimp only at hcall
    have d0 := hc 0 (by omega)
    have d1 := hc 1 (by omega)
    have d2 := hc 2 (by omega)
    simp only [List.getElem?_cons_zero, List.getElem?_cons_succ, Nat.add_zero] at d0 d1 d2
    have HC := hide hcall
    have HV := hide (HEQ.out.trans hval)
    clear hc hrow hsk hval hcall HEQ
    go_wp2_with fail
    refine (HC.out _ (Below.refl _ _)).mono ?_
    rintro e w2 ⟨rfl, hb2⟩
    have HR := hide (HQ.out _ w2 HV.out hb2)
    clear hb2 HQ
    go_wp2_with fail
    go_ret
    exact HR.out
  rw [if_neg k1] at HEQ
  have T1 : (kind == 1) = false := beq_eq_false_iff_ne.2 k1
  by_cases k2 : kind = 2 ∨ kind = 4 ∨ kind = 5
  · rw [if_pos k2] at HEQ
    have HR := hide (HQ.out _ W0 HEQ.out (Below.refl _ _))
    clear HQ HEQ k1
    rcases k2 with rfl | rfl | rfl
    all_goals
      go_wp2_with fail
      go_ret
      exact HR.out
  rw [if_neg k2] at HEQ
  have T2 : (kind == 2) = false := beq_eq_false_iff_ne.2 fun h => k2 (.inl h)
  have T4 : (kind == 4) = false := beq_eq_false_iff_ne.2 fun h => k2 (.inr (.inl h))
  have T5 : (kind == 5) = false := beq_eq_false_iff_ne.2 fun h => k2 (.inr (.inr h))
  have hbd := HSZ.out.1 k1 (fun h => k2 (.inl h)) (fun h => k2 (.inr (.inl h))) (fun h => k2 (.inr (.inr h)))
  have hkl := hbd.1
  have HBD := hide hbd.2
  clear k1 k2 hbd
  go_upto_region 10 with (fail)
  have hbE : Below W0.heap.size W0 (W0.alloc (.cells #[] 9)) := (Below.refl _ _).alloc (Nat.le_refl _) _
  go_loopw [7, 8] (fun o i wr => AtRel env kids W0 o i wr) (fun _ i _ => kids.length - (intOf i).toNat)
  case atStart => exact ⟨0, _, 0, Nat.zero_le _, rfl, rfl, str_empty W0 (Nat.le_refl _), hbE⟩
  case round =>
    obtain ⟨V, rfl⟩ : ∃ w2 : World, w2 = wr := ⟨_, rfl⟩
    obtain ⟨j, A2, c2, hj, rfl, rfl, hown, hbr⟩ := hrel
    have HOWN := hide hown
    have HBR := hide hbr
    clear hown hbr hbE q0 q1 q2 y0 y1 y2 y3 y4 y5 y6 y7 y8
    obtain ⟨q0, q1, q2⟩ := HH.out V HBR.out
    obtain ⟨y0, y1, y2, y3, y4, y5, y6, y7, y8⟩ := box9 ((HBR.out.block _ (box_lt HG1.out)).trans HG1.out)
    by_cases hlt : j < kids.length
    · have hT := HT.out.grow HBR.out
      obtain ⟨bk, ok, rfl, hbk, hc⟩ := hT.row.at_ hlt
      have hmem := List.getElem_mem hlt
      have hkid := hT.each _ hmem
      have hokk := HOK.out.2 _ hmem
      have hszk := HSZ.out.2 _ hmem
      have hsgk := HSK.out _ hmem
      have HTK := hide (show (kids.take (j + 1)).map (valF env) = (kids.take j).map (valF env) ++ [valF env kids[j]] by rw [List.take_succ_eq_append_getElem hlt, List.map_append]; rfl)
      have hlk : ((kids.take j).map (valF env)).length = j := by simp; omega
      have hcall := IH.out _ hmem V.drew (HS0.out.up (below_drew HBR.out)) (hkid.grow (below_drew (Below.refl _ _))) hokk hszk hsgk
      generalize kids[j] = qn at *
      obtain ⟨vq, hvq⟩ : ∃ vq, valF env qn = vq := ⟨_, rfl⟩
      rw [hvq] at hcall HTK
      obtain ⟨m1, m2, m3, m4, m5, m6, m7, m8, mK, mc, ml⟩ := qn
      unfold cNd at hc hcall
      obtain ⟨c0, c1, c2', c3, c4, c5, c6, c7, c8⟩ := nine hc
      have HC := hide hcall
      have hzw := HBR.out.size
      clear hc hkid hokk hszk hsgk hcall hmem hT hvq
      go_upto_region 12 with (fail)
      go_region_law
        (first
          | (refine step_append_src rfl (.tmp 35) (.tmp 44) 49 rfl W0.heap.size 9 i0 _ 1 16 Tryz.underlying49 hi0 hz0 hz1 hz2 rfl (by decide) (.slice A2 j c2) j (((kids.take j).map (valF env)).map Value.string) rfl HO3.out (some ⟨w2.heap.size, 0, none⟩) 1 1 [.string vq] rfl rfl (src_block (t := 9) (fr := (0, 0)) HN.out) (str_one vq) (by simp only [maxLen]; omega) (by omega) (by simp; omega) ?_
             intro v5 w5 hown5 hg5
             obtain ⟨A5, c5, rfl, ho5⟩ := OwnStr.of_row (l := (kids.take (j + 1)).map (valF env)) hown5 (by rw [HTK.out]; simp; omega) (by rw [HTK.out]; simp)
             rw [ob_eq] at hg5
             rw [show ((kids.take (j + 1)).map (valF env)).length = j + 1 by simp; omega]
             have HO5 := hide ho5
             have HB5 := hide ((HB2.out.alloc (by omega) (.cells #[.string vq] 9)).grown hg5 (by simp; omega) (fun g hg => (own_ob HOWN.out g hg).1))
             clear hown5 hg5 ho5)
          | (go_simp
             go_at_call 43
             refine HC.out.mono ?_
             rintro e w2 ⟨rfl, hb2⟩
             have hb2' := bstep (below_drew (Below.refl V.heap.size V)) hb2
             have HB2 := hide (bstep HBR.out hb2')
             have HO3 := hide (World.ownsRow.alloc (HOWN.out.below hb2') (.cells #[.string vq] 9))
             have HN := hide (heap_alloc_new w2 (.cells #[.string vq] 9))
             rw [hlk] at HO3
             have hzw2 := hb2'.size
             clear hb2 hb2')
          | fail)
      all_goals
        go_wp2_with fail
        exact ⟨⟨j + 1, A5, c5, hlt, by go_num, rfl, HO5.out, HB5.out⟩, by simp [intOf]; omega⟩
    · have hke : j = kids.length := by omega
      subst hke
      rw [List.take_length] at HOWN
      have hap := rapply_any ⟨kind, at_, name, value, a, b, c, d, .slice KA kids.length kc⟩ A2 c2 (kids.map (valF env)) V (HOWN.out.strs.more fun b h => h.2.1) (by simp; omega) HOWN.out.cap (fun v hv => by obtain ⟨k, hk, rfl⟩ := List.mem_map.1 hv; exact HBD.out k hk) HOK.out.1.2.1 HOK.out.1.2.2.1 HOK.out.1.1
      unfold encNf at hap
      dsimp only at hap
      rw [List.length_map] at hap
      have HAP := hide hap
      have HR := hide (fun wx hb => HQ.out _ wx HEQ.out hb)
      rw [vL_eq] at HR
      clear HQ HEQ hap
      go_wp2_with (go_at_call 93; refine HAP.out.mono ?_; rintro e w2 ⟨rfl, hb2⟩; have HB2 := hide hb2; clear hb2)
      go_ret
      exact HR.out _ (bstep HBR.out HB2.out)

end Go.Proofs.YtbhcmnfeeogdhaaGreatDoor

/-
  condition.Of: where a value of one bit is true and false; condition.within.
-/
namespace Go.Proofs.YtbhcmnfeeogdhaaGreatDoor
open Go.RowKit

set_option maxRecDepth 100000 in
theorem within_any (v : Wv) (L c : Int) (M : Nat) (f t : Int) (w : World) (h : SourceAt w M v L c) : Calls Tryz.prog 47 #[srcV M, .int .i64 f, .int .i64 t] w fun e w' => e = .returned (.bool (decide (0 ≤ f) && decide (f ≤ t) && decide (t ≤ v.fin))) ∧ w = w' := by
  have HE := hide (end_any M v L c w h)
  have hm := meth_end (some ⟨M, 0, none⟩)
  unfold srcV
  clear h
  by_cases h1 : 0 ≤ f
  · have T1 : decide (0 ≤ f) = true := decide_eq_true h1
    by_cases h2 : f ≤ t
    · have T2 : decide (f ≤ t) = true := decide_eq_true h2
      go_enter Tryz.func47, Tryz.ntmps47
      go_wp2_with fail
      refine HE.out.mono ?_
      rintro e w' ⟨rfl, rfl⟩
      go_wp2_with fail
      go_ret
      exact ⟨by first | rfl | (rw [T1, T2]; rfl), rfl⟩
    · have T2 : decide (f ≤ t) = false := decide_eq_false h2
      go_enter Tryz.func47, Tryz.ntmps47
      go_wp2_with fail
      go_ret
      exact ⟨by first | rfl | (rw [T1, T2]; rfl), rfl⟩
  · have T1 : decide (0 ≤ f) = false := decide_eq_false h1
    go_enter Tryz.func47, Tryz.ntmps47
    go_wp2_with fail
    go_ret
    exact ⟨by first | rfl | (rw [T1]; rfl), rfl⟩

end Go.Proofs.YtbhcmnfeeogdhaaGreatDoor

/-
  The law range_rel where the loop's own variable lies in a block that the assign code lays in every round.
-/
namespace Go.Proofs.YtbhcmnfeeogdhaaGreatDoor
open Go.RowKit Go.Shelf

/-- the law: a loop over such an iterator, outside of every other such loop; the body may write whatever lay ahead of the loop -/
theorem range_relA {P : Program} {n : Nat} {α : Type} {g : Operand} {ps : Array Tmp} {assign body : Code} {Q : Exit → Act → World → Prop} {a : Act} {w : World}
    (h1 : 1 ≤ n) {gf : Nat} {lb : Array Value} (hg : a.eval g = .func (.func gf) #[] lb) (eg : ∀ args w, (callFunc gf args).run P w = .ok (.enter gf args) w)
    {encs : α → Array Value} {R : World → World → Prop} (hR : ∀ W W', R W W' → ∀ b, w.heap.size ≤ b → b < W.heap.size → W'.heap[b]? = W.heap[b]?) {Kp : World → World → Prop} {S Sp : List α → Prop} {T : List α → World → Prop} {N : Nat} (hseq : SeqRel (n - 1) P gf lb encs R Kp S Sp T N w) (hT : OwnFrom w.heap.size T)
    (hKt : ∀ {A B C : World}, Kp A B → Kp B C → Kp A C) (hKb : ∀ (W : World) (l : Nat) (o o' : Obj), w.heap.size ≤ l → W.heap[l]? = some o → o.isCells = false → o.isWalk = false → Kp W (W.putObj l o')) (hps : ∀ x, (encs x).size = ps.size)
    (I : List α → World → Prop) (Ix : Code → List α → World → Prop) (hI : OwnFrom w.heap.size I) (hIx : ∀ c, OwnFrom w.heap.size (Ix c)) (fI : RFree R I) (fIx : ∀ c, RFree R (Ix c)) (h0 : I [] w) (Ax : List α → α → Act → World → Prop) (hAx : ∀ x a, OwnFrom w.heap.size (fun pre W => Ax pre x a W))
    (hassign : ∀ (l : Nat) (pre : List α) (x : α) (W : World) (K : Act → World → Prop), w.heap.size ≤ l → l < W.heap.size → I pre W → pre.length < N → (∀ a₁ W', KeepsFrom w.heap.size W W' → Kp W W' → Ax pre x a₁ W' → K a₁ W') →
      assign.wpIn (Fence.wide.inRound l) (n - 1 - 1) P (Exit.then K (fun _ _ _ => False)) { tmps := (ps.zip (encs x)).foldl (fun t (p, v) => t.setIfInBounds p v) a.tmps, defers := [] } W)
    (hbody : ∀ (l : Nat) (pre : List α) (x : α) (a₁ : Act) (W : World), w.heap.size ≤ l → l < W.heap.size → Ax pre x a₁ W → pre.length < N → body.wpIn (Fence.wide.inRound l) (n - 1 - 1) P (ownPostG w.heap.size Kp I Ix (pre ++ [x]) W) a₁ W)
    (hdone : ∀ (D : Nat) (xs : List α) (W : World), w.heap.size ≤ D → S xs → I xs W → T xs W → W.heap[D]? = some (.deferred (some [])) → Q .normal { a with defers := { target := .collected D, args := #[] } :: a.defers } W)
    (hstop : ∀ (D : Nat) (c : Code) (pre : List α) (W : World), w.heap.size ≤ D → Sp pre → Ix c pre W → W.heap[D]? = some (.deferred (some [])) → c.wpIn Fence.wide n P Q { a with defers := { target := .collected D, args := #[] } :: a.defers } W) :
    (Code.rangeFunc g ps assign body).wpIn Fence.wide n P Q a w := by
  refine wpIn_rangeFunc ?_
  intro fn hfn
  obtain ⟨rec, hrec⟩ : ∃ rec : LoopState → Option Code → Loop, rec = fun st pe => { state := st, pending := pe, fn, tmps := a.tmps, params := ps, assign, body, defers := w.heap.size } := ⟨_, rfl⟩
  have hup : ∀ s p s' p', ({ rec s p with state := s', pending := p' } : Loop) = rec s' p' := fun _ _ _ _ => by rw [hrec]
  have hst : ∀ s p, (rec s p).state = s := fun _ _ => by rw [hrec]
  obtain ⟨K, hK⟩ : ∃ K : Nat, K = w.heap.size := ⟨_, rfl⟩
  -- the two blocks of book-keeping
  let Bk : LoopState → Option Code → World → Prop := fun s p W => W.heap[K + 1]? = some (.loop (rec s p)) ∧ W.heap[K]? = some (.deferred (some []))
  have bkR : ∀ s p W W', Bk s p W → R W W' → Bk s p W' := fun s p W W' hb hr =>
    ⟨(hR W W' hr (K + 1) (by omega) (Array.getElem?_eq_some_iff.1 hb.1).1).trans hb.1, (hR W W' hr K (by omega) (Array.getElem?_eq_some_iff.1 hb.2).1).trans hb.2⟩
  have bkPut : ∀ s p s' p' W, Bk s p W → Bk s' p' (W.putObj (K + 1) (.loop (rec s' p'))) := fun s p s' p' W hb =>
    ⟨World.putObj_heap_same (Array.getElem?_eq_some_iff.1 hb.1).1, (World.putObj_heap_other (by omega)).trans hb.2⟩
  obtain ⟨W1, hW1⟩ : ∃ W1, (w.alloc (.deferred (some []))).alloc (.loop (rec .ready none)) = W1 := ⟨_, rfl⟩
  have hBk1 : Bk .ready none W1 := by
    subst hK
    rw [← hW1]
    refine ⟨?_, (Below.heap_alloc _ _ _ (by simp)).trans (World.alloc_heap_new w _)⟩
    have := World.alloc_heap_new (w.alloc (.deferred (some []))) (.loop (rec .ready none))
    rwa [World.size_alloc] at this
  have hI1 : I [] W1 := by rw [← hW1]; exact hI.alloc _ (hI.alloc _ h0)
  have hb1 : Below w.heap.size w W1 := by
    rw [← hW1]; exact ((Below.refl _ w).alloc (Nat.le_refl _) _).alloc (by simp) _
  refine ⟨w.heap.size + 1, [{ target := .collected w.heap.size, args := #[] }], W1, { target := .fn (.func gf) lb, args := #[.func (.yield (w.heap.size + 1)) #[] #[]] }, W1, gf,
    #[.func (.yield (w.heap.size + 1)) #[] #[]] ++ lb, W1, ?_, ?_, ?_, ?_, fun _ => h1, ?_⟩
  · rw [← hW1, hrec]; exact run_enterLoop_outer _ _ _ _ _
  · simp only [resolve, hg]
    simp [go_sem]
  · intro f' hf'; simp [Target.leads] at hf'; subst hf'; trivial
  · simp [invoke, go_sem, eg]
  rw [← hK]
  refine (hseq (K + 1) (fun pre W => I pre W ∧ Bk .ready none W) (fun pre W => ∃ c, Ix c pre W ∧ Bk .done (some c) W) W1 hb1
    (fun s W W' hs hr => ⟨fI s W W' hs.1 hr, bkR _ _ W W' hs.2 hr⟩) (fun s W W' hs hr => by obtain ⟨c, h2, h3⟩ := hs; exact ⟨c, fIx c s W W' h2 hr, bkR _ _ W W' h3 hr⟩) ?_ ⟨hI1, hBk1⟩).mono ?_
  · rintro pre x W ⟨hi, hb⟩ hlen
    have hlt : K + 1 < W.heap.size := (Array.getElem?_eq_some_iff.1 hb.1).1
    have hy := run_yield (P := P) (args := encs x) hb.1 (by rw [hrec]; exact hps x)
    rw [hrec] at hy
    refine ⟨fn, _, assign, body, hy, roundIn_of_wpIn hfn (hassign _ pre x W _ (by omega) hlt hi hlen fun a1 Wa hka hpa hxa => ?_)⟩
    have hba : Bk .ready none Wa := ⟨hka.same _ _ (by omega) hb.1 rfl, hka.same _ _ (by omega) hb.2 rfl⟩
    have hbr := run_beginRound (P := P) hba.1 (hst _ _)
    rw [show ({ rec .ready none with state := .busy } : Loop) = rec .busy none by rw [hrec]] at hbr
    refine ⟨_, hbr, ?_⟩
    have hb2 := bkPut _ _ .busy none Wa hba
    have hw2 : Kp W (Wa.putObj (K + 1) (.loop (rec .busy none))) := hKt hpa (hKb _ _ _ _ (by omega) hba.1 rfl rfl)
    refine wpIn_mono (hbody _ pre x a1 _ (by omega) (Array.getElem?_eq_some_iff.1 hb2.1).1 ((hAx x a1).putObj _ hxa (by omega) hba.1 rfl) hlen) ?_
    have fin : ∀ (W3 : World), KeepsFrom w.heap.size (Wa.putObj (K + 1) (.loop (rec .busy none))) W3 → Bk .busy none W3 := fun W3 hk3 =>
      ⟨hk3.same _ _ (by omega) hb2.1 rfl, hk3.same _ _ (by omega) hb2.2 rfl⟩
    rintro e a3 W3 hp
    cases e with
    | normal =>
      obtain ⟨hk3, hkp3, hi3⟩ := hp
      have hb3 := fin W3 hk3
      exact ⟨_, _, loop_roundR hup none hb3.1, .inl ⟨rfl, ⟨hI.putObj _ hi3 (by omega) hb3.1 rfl, bkPut _ _ _ _ _ hb3⟩, hKt (hKt hw2 hkp3) (hKb _ _ _ _ (by omega) hb3.1 rfl rfl)⟩⟩
    | ret =>
      obtain ⟨hk3, hi3⟩ := hp
      have hb3 := fin W3 hk3
      exact ⟨_, _, loop_roundR hup (some .ret) hb3.1, .inr ⟨rfl, .ret, (hIx _).putObj _ hi3 (by omega) hb3.1 rfl, bkPut _ _ _ _ _ hb3⟩⟩
    | exit id =>
      obtain ⟨hk3, hi3⟩ := hp
      have hb3 := fin W3 hk3
      exact ⟨_, _, loop_roundR hup (some (.exit id)) hb3.1, .inr ⟨rfl, .exit id, (hIx _).putObj _ hi3 (by omega) hb3.1 rfl, bkPut _ _ _ _ _ hb3⟩⟩
    | goto t =>
      obtain ⟨hk3, hi3⟩ := hp
      have hb3 := fin W3 hk3
      exact ⟨_, _, loop_roundR hup (some (.goto t)) hb3.1, .inr ⟨rfl, .goto t, (hIx _).putObj _ hi3 (by omega) hb3.1 rfl, bkPut _ _ _ _ _ hb3⟩⟩
    | panic ch => exact hp.elim
    | outgrown => exact hp.elim
  · have hend : ∀ s p W2, Bk s p W2 → s ≠ .busy → (Instr.endLoop (K + 1)).run P W2 = .ok p (W2.putObj (K + 1) (.loop (rec .exhausted p))) := fun s p W2 hb hs => by
      have := run_endLoop (P := P) hb.1 (by rw [hst]; exact hs)
      rw [this, hrec]
    rintro e W2 ⟨⟨v, rfl⟩, (⟨xs, hS, ⟨hi, hb⟩, hTx⟩ | ⟨pre, hSp, c, hi, hb⟩)⟩
    · exact ⟨none, _, hend _ _ _ hb (by simp), hdone _ xs _ (by omega) hS (hI.putObj _ hi (by omega) hb.1 rfl) (hT.putObj _ hTx (by omega) hb.1 rfl) ((World.putObj_heap_other (by omega)).trans hb.2)⟩
    · exact ⟨some c, _, hend _ _ _ hb (by simp), hstop _ c pre _ (by omega) hSp ((hIx c).putObj _ hi (by omega) hb.1 rfl) ((World.putObj_heap_other (by omega)).trans hb.2)⟩

/-- the same, the activation behind the assign code being known but for the block -/
theorem range_relM {P : Program} {n : Nat} {α : Type} {g : Operand} {ps : Array Tmp} {assign body : Code} {Q : Exit → Act → World → Prop} {a : Act} {w : World}
    (h1 : 1 ≤ n) {gf : Nat} {lb : Array Value} (hg : a.eval g = .func (.func gf) #[] lb) (eg : ∀ args w, (callFunc gf args).run P w = .ok (.enter gf args) w)
    {encs : α → Array Value} {R : World → World → Prop} (hR : ∀ W W', R W W' → ∀ b, w.heap.size ≤ b → b < W.heap.size → W'.heap[b]? = W.heap[b]?) {Kp : World → World → Prop} {S Sp : List α → Prop} {T : List α → World → Prop} {N : Nat} (hseq : SeqRel (n - 1) P gf lb encs R Kp S Sp T N w) (hT : OwnFrom w.heap.size T)
    (hKt : ∀ {A B C : World}, Kp A B → Kp B C → Kp A C) (hKb : ∀ (W : World) (l : Nat) (o o' : Obj), w.heap.size ≤ l → W.heap[l]? = some o → o.isCells = false → o.isWalk = false → Kp W (W.putObj l o')) (hps : ∀ x, (encs x).size = ps.size)
    (I : List α → World → Prop) (Ix : Code → List α → World → Prop) (hI : OwnFrom w.heap.size I) (hIx : ∀ c, OwnFrom w.heap.size (Ix c)) (fI : RFree R I) (fIx : ∀ c, RFree R (Ix c)) (h0 : I [] w) (mk : Nat → α → Act) (Ax : Nat → α → List α → World → Prop) (hAx : ∀ X x, OwnFrom w.heap.size (Ax X x))
    (hassign : ∀ (l : Nat) (pre : List α) (x : α) (W : World) (K : Act → World → Prop), w.heap.size ≤ l → l < W.heap.size → I pre W → pre.length < N → (∀ X W', KeepsFrom w.heap.size W W' → Kp W W' → Ax X x pre W' → K (mk X x) W') →
      assign.wpIn (Fence.wide.inRound l) (n - 1 - 1) P (Exit.then K (fun _ _ _ => False)) { tmps := (ps.zip (encs x)).foldl (fun t (p, v) => t.setIfInBounds p v) a.tmps, defers := [] } W)
    (hbody : ∀ (l : Nat) (pre : List α) (x : α) (X : Nat) (W : World), w.heap.size ≤ l → l < W.heap.size → Ax X x pre W → pre.length < N → body.wpIn (Fence.wide.inRound l) (n - 1 - 1) P (ownPostG w.heap.size Kp I Ix (pre ++ [x]) W) (mk X x) W)
    (hdone : ∀ (D : Nat) (xs : List α) (W : World), w.heap.size ≤ D → S xs → I xs W → T xs W → W.heap[D]? = some (.deferred (some [])) → Q .normal { a with defers := { target := .collected D, args := #[] } :: a.defers } W)
    (hstop : ∀ (D : Nat) (c : Code) (pre : List α) (W : World), w.heap.size ≤ D → Sp pre → Ix c pre W → W.heap[D]? = some (.deferred (some [])) → c.wpIn Fence.wide n P Q { a with defers := { target := .collected D, args := #[] } :: a.defers } W) :
    (Code.rangeFunc g ps assign body).wpIn Fence.wide n P Q a w :=
  range_relA h1 hg eg hR hseq hT hKt hKb hps I Ix hI hIx fI fIx h0 (fun pre x a W => ∃ X, a = mk X x ∧ Ax X x pre W)
    (fun x _ pre W W' row h hg hr => by obtain ⟨X, h1, h2⟩ := h; exact ⟨X, h1, hAx X x pre W W' row h2 hg hr⟩)
    (fun l pre x W K h1 h2 h3 h4 h5 => hassign l pre x W K h1 h2 h3 h4 fun X W' h6 h7 h8 => h5 _ W' h6 h7 ⟨X, rfl, h8⟩)
    (fun l pre x a₁ W h1 h2 h3 h4 => by obtain ⟨X, rfl, h5⟩ := h3; exact hbody l pre x X W h1 h2 h5 h4) hdone hstop

end Go.Proofs.YtbhcmnfeeogdhaaGreatDoor
