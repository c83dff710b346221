/-
  Several texts in one: Open, Awake55, MatchL. Each says at its head what it holds.
-/
import Derived.Test.YtkbiefklilelmaaMP13
import Derived.Test.YtkbiefklilelmaaMP14
import Derived.Test.YtkbiefklilelmaaMP3

/-
  match.Open: the open times of a range.
-/
namespace Go.Proofs.Ytkbiefklilelmaa
open Go.RowKit

/-- what Open answers -/
def OpenPost (a : Aut) (ev : List SlI) (cs : List SlV) (f t en : Int) (w : World) (e : Ending) (w' : World) : Prop :=
  Below w.heap.size w w' ∧ ((¬ PrepOk a ev cs.length f t en ∧ e = .returned (.tuple #[.slice none 0 0, .int .i64 1])) ∨
    (PrepOk a ev cs.length f t en ∧ ∃ A c xs, e = .returned (.tuple #[.slice A xs.length c, .int .i64 0]) ∧ OwnInt w' w.heap.size A c xs ∧ xs.length ≤ 960 ∧ IsOpen (inpOf a ev cs) f t en xs))
/-- the loop over the starts: so many have been taken -/
def OpenRel (x : MIn) (ps : List Int) (W : World) (out i : Value) (wr : World) : Prop :=
  ∃ (k : Nat) (A : Option Addr) (c : Nat) (xs : List Int), k ≤ ps.length ∧ i = .int .i64 k ∧ out = .slice A xs.length c ∧ OwnInt wr W.heap.size A c xs ∧ OpenK x.inp x.en (ps.take k) xs ∧ Below W.heap.size W wr

set_option maxRecDepth 100000 in
set_option maxHeartbeats 8000000 in
theorem open_any (a : Aut) (AV : Option Addr) (cV : Nat) (ev : List SlI) (AC' : Option Addr) (cC' : Nat) (cs : List SlV) (f t en : Int) (w : World) (ha : AutAt w (Lo w.heap.size) a) (hle : AutLe a) (hev : EvAt w AV ev) (hcs : CsAt w AC' cs)
    (h1 : a.edges.length ≤ 40) (h2 : ev.length ≤ 40) (h3 : cs.length ≤ 40) (h4 : ∀ s ∈ ev, s.xs.length ≤ 24) (h5 : ∀ s ∈ cs, s.xs.length ≤ 1000000000000) :
    Calls Try.prog 35 #[.agg (encA a).toArray, .slice AV ev.length cV, .slice AC' cs.length cC', .int .i64 f, .int .i64 t, .int .i64 en] w (OpenPost a ev cs f t en w) := by
  obtain ⟨a', ha'⟩ : ∃ a', a = a' := ⟨_, rfl⟩
  obtain ⟨W0, hW0⟩ : ∃ W0, w.alloc (.cells (encA a).toArray 50) = W0 := ⟨_, rfl⟩
  have g0 := new_at hW0
  have hb0 : Below w.heap.size w W0 := by rw [← hW0]; exact (Below.refl _ _).alloc (Nat.le_refl _) _
  have hp := prepare_any a AV cV ev AC' cC' cs f t en W0 (ha.grow hb0) hle (hev.step hb0) (hcs.step hb0) (by omega) (by omega) (fun s hs => by have := h4 s hs; omega) h5
  have HA := hide (ha.grow hb0)
  have HEV := hide (hev.step hb0)
  have HMOK := hide (fun AS cS cs' hpo hss => mok_of (a := a) (AV := AV) (cV := cV) (AS := AS) (cS := cS) (ev := ev) (cs := cs) (cs' := cs') (f := f) (t := t) (en := en) hpo hss h1 h2 h3 h4)
  have HB0 := hide hb0
  rw [ha'] at hp g0 hW0 HA HMOK ⊢
  obtain ⟨AE, nE, cE, AC, nC, cC, AF, cF, fin, AX, cX, edges⟩ := a
  have hX : encA a' = [.slice AE nE cE, .slice AC nC cC, .slice AF fin.length cF, .slice AX edges.length cX] := by rw [← ha']; rfl
  have HEX := hide hX
  rw [hX] at hp g0 hW0 ⊢
  have HG0 := hide g0
  have HW0 := hide hW0
  obtain ⟨k0, k1, k2, k3, -⟩ := box4 g0
  clear hX ha' hW0 g0 hb0 ha hle hev hcs h1 h2 h3 h4 h5
  by_cases hpo : PrepOk a' ev cs.length f t en
  · have HPO := hide hpo
    have HP := hide (hp.mono (fun e w2 h => (show Below W0.heap.size W0 w2 ∧ ∃ AS cS cs', e = .returned (.tuple #[.agg (encX ⟨a', AV, cV, ev, AS, cS, cs', en⟩).toArray, .int .i64 0]) ∧ CsAt w2 AS cs' ∧ SameSets cs cs' from ⟨h.1, h.2.elim (fun h => absurd hpo h.1) (fun h => h.2)⟩)))
    clear hp hpo
    go_enter Try.func35, Try.ntmps35
    go_upto_region 1 with (fail)
    rw [HW0.out]
    go_upto_region 2 with (go_at_call 56; refine HP.out.mono ?_; rintro e w2 ⟨hb2, AS, cS, cs', rfl, hcs2, hss⟩; have HCS2 := hide hcs2; have HSS := hide hss; have HB2 := hide hb2; unfold encX; rw [HEX.out])
    obtain ⟨x, hx⟩ : ∃ x : MIn, (⟨a', AV, cV, ev, AS, cS, cs', en⟩ : MIn) = x := ⟨_, rfl⟩
    have hEX : encX x = [.slice AE nE cE, .slice AC nC cC, .slice AF fin.length cF, .slice AX edges.length cX, .slice AV ev.length cV, .slice AS cs'.length cS, .int .i64 en] := by rw [← hx]; unfold encX; rw [HEX.out]; rfl
    have hen : x.en = en := by rw [← hx]
    obtain ⟨mok, hnm, f0, f1, f2⟩ := HMOK.out AS cS cs' HPO.out HSS.out
    have hSI : SameIn (inpOf a' ev cs) x.inp := by rw [← hx]; exact ⟨rfl, rfl, rfl, fun wh u v => hold_same HSS.out wh u v⟩
    have hMA : MAt w2 x := by rw [← hx]; exact ⟨HA.out.grow HB2.out, HEV.out.step HB2.out, HCS2.out⟩
    rw [hx] at mok
    have hnm : ∀ s ∈ x.cs, Norm s.xs := by rw [← hx]; exact hnm
    obtain ⟨W3, hW3⟩ : ∃ W3, w2.alloc (.cells #[.slice AE nE cE, .slice AC nC cC, .slice AF fin.length cF, .slice AX edges.length cX, .slice AV ev.length cV, .slice AS cs'.length cS, .int .i64 en] 83) = W3 := ⟨_, rfl⟩
    have g3 := new_at hW3
    have hb3 : Below w2.heap.size w2 W3 := by rw [← hW3]; exact (Below.refl _ _).alloc (Nat.le_refl _) _
    have HMA := hide (hMA.step hb3)
    have HB3 := hide (bstep (bstep HB0.out HB2.out) hb3)
    have HG3 := hide g3
    have HOK := hide mok
    have HNM := hide hnm
    have HSI := hide hSI
    have HEN := hide hen
    have HEE := hide hEX
    have HSTR := hide (starts_any x f t W3 HMA.out mok)
    obtain ⟨x0, x1, x2, x3, x4, x5, x6⟩ := box7 g3
    rw [hW3]
    clear hx hEX hen hSI hMA hnm mok hW3 g3 hb3 hb2 hcs2 hss HCS2 HSS HMOK HP HA HEV HG0 HW0 k0 k1 k2 k3 HB2 HEX
    go_upto_region 6 with (go_at_call 57; rw [HEE.out] at HSTR; refine HSTR.out.mono ?_; rintro e w4 ⟨A4, c4, ps, rfl, hown4, hb4, hlist⟩; have HOWN4 := hide hown4; have HB4 := hide hb4; have HLIST := hide hlist)
    have HPS := hide (starts_few HOK.out HLIST.out)
    have HB4' := hide (bstep HB3.out HB4.out)
    have HG4 := hide ((HB4.out.block _ (box_lt HG3.out)).trans HG3.out)
    have HMA4 := hide (HMA.out.step HB4.out)
    have HI4 := hide HOWN4.out.ats
    have HST := hide (show ∀ q ∈ ps, 0 ≤ q ∧ q ≤ x.en from fun q hq => by obtain ⟨h1, h2, _⟩ := (HLIST.out.2 q).1 hq; rw [HEN.out]; omega)
    clear x0 x1 x2 x3 x4 x5 x6 hown4 hb4 hlist HSTR HMA HB3 HG3 hnm
    generalize w2.heap.size = Bx at *
    go_wp2_with fail
    go_loopw [16, 40] (fun out i wr => OpenRel x ps w4 out i wr) (fun _ i _ => ps.length - (intOf i).toNat)
    case atStart => exact ⟨0, none, 0, [], Nat.zero_le _, rfl, rfl, OwnInt.nil _ _, by rw [List.take_zero]; exact OpenK.nil, Below.refl _ _⟩
    case round =>
      obtain ⟨k, A, c, xs, hk, rfl, rfl, hown, hrk, hbr⟩ := hrel
      have HOWN := hide hown
      have HRK := hide hrk
      have HBR := hide hbr
      clear hown hrk hbr
      have hpl := HPS.out
      by_cases hlt : k < ps.length
      · obtain ⟨bp, op, rfl, hbp, e0⟩ := (HI4.out.step HBR.out).at_ hlt
        have hst := HST.out _ (List.getElem_mem hlt)
        have HTK := hide (take_succ' hlt)
        have HTL := hide (take_lt HLIST.out.1 hlt)
        generalize ps[k] = st at *
        have hreach := reach_any x st wr (HMA4.out.step HBR.out) HOK.out HNM.out hst
        rw [HEE.out] at hreach
        have HREACH := hide hreach
        have gw := (HBR.out.block _ (box_lt HG4.out)).trans HG4.out
        have HGW := hide gw
        obtain ⟨x0, x1, x2, x3, x4, x5, x6⟩ := box7 gw
        clear hreach gw
        go_upto_region 8 with (fail)
        clear e0
        go_upto_region 9 with (go_at_call 59; refine HREACH.out.mono ?_; rintro e w5 ⟨B, n, rfl, hb5, hB, hn, hmp⟩; have HB5 := hide hb5; have HMP := hide hmp; clear hb5 hmp)
        have hends := ends_any x B n _ w5 (HMA4.out.step (bstep HBR.out HB5.out)) HMP.out (fun s t h => rch_64 HOK.out hst h) (fun s t h => (rch_in HOK.out hst h).1) HOK.out.fin
        rw [HEE.out] at hends
        have HENDS := hide hends
        obtain ⟨x0, x1, x2, x3, x4, x5, x6⟩ := box7 ((HB5.out.block _ (box_lt HGW.out)).trans HGW.out)
        clear hends hB hn HREACH
        go_upto_region 10 with (go_at_call 58; refine HENDS.out.mono ?_; rintro e w6 ⟨v, okv, rfl, hl6, hb6⟩; have HL6 := hide hl6; have HB6 := hide hb6; clear hl6 hb6)
        have HB6' := hide (bstep HB5.out HB6.out)
        clear x0 x1 x2 x3 x4 x5 x6 HENDS
        cases okv with
        | true =>
          have HN := hide (show OpenRel x ps w4 (.slice A xs.length c) (.int .i64 ((k : Int) + 1)) w6 from ⟨k + 1, A, c, xs, hlt, by go_num, rfl, own_block HOWN.out fun g hg => HB6'.out.block g (own_ob HOWN.out g hg).2, by rw [HTK.out]; exact HRK.out.skip fun h => h.1 ⟨v, (HL6.out.1 rfl).1⟩, bstep HBR.out HB6'.out⟩)
          go_wp2_with fail
          exact ⟨HN.out, by simp [intOf]; omega⟩
        | false =>
          have HM6 := hide (HMP.out.block (w' := w6) (HB6.out.block B HMP.out.lt))
          have hop := isOpen_any x B n _ w6 (HMA4.out.step (bstep HBR.out HB6'.out)) HOK.out HNM.out HM6.out (fun s t h => rch_64 HOK.out hst h) (fun s t h => (rch_in HOK.out hst h).2)
          rw [HEE.out] at hop
          have HOP := hide hop
          obtain ⟨x0, x1, x2, x3, x4, x5, x6⟩ := box7 ((HB6'.out.block _ (box_lt HGW.out)).trans HGW.out)
          clear hop
          by_cases hopen : OpenS x.inp st x.en
          · have HOT := hide hopen
            clear hopen
            have HOPT := hide (HOP.out.mono (fun e w7 h => (show e = .returned (.bool true) ∧ Below w6.heap.size w6 w7 from by obtain ⟨b, rfl, hb, hb7⟩ := h; have := (open_iff (fun t => HL6.out.2 rfl t) hb).2 HOT.out; subst this; exact ⟨rfl, hb7⟩)))
            have hxl : xs.length ≤ 960 := by have h1 := HRK.out.len; rw [List.length_take] at h1; have h2 := HPS.out; omega
            have T1 : ((xs.length : Int) == 1024) = false := beq_eq_false_iff_ne.2 (by omega)
            obtain ⟨i0, hi0, hz0, hz1, hz2⟩ := info_parts infoInt
            have HI := hide hi0
            have HZ0 := hide hz0
            have HZ1 := hide hz1
            have HZ2 := hide hz2
            clear hi0 hz0 hz1 hz2 HOP
            go_upto_region 13 with (go_at_call 64; refine HOPT.out.mono ?_; rintro e w7 ⟨rfl, hb7⟩; have HB7 := hide (bstep HB6'.out hb7); clear hb7)
            have HOC := hide (own_block (w' := w7) HOWN.out fun g hg => HB7.out.block g (own_ob HOWN.out g hg).2)
            have HBW := hide (bstep HBR.out HB7.out)
            clear T1 x0 x1 x2 x3 x4 x5 x6 HOPT
            go_wp2_with (at_builtin; (refine wpList_append_own_at _ rfl _ _ 36 rfl w4.heap.size 3 i0 _ 1 8 Try.underlying36 HI.out HZ0.out HZ1.out HZ2.out rfl (by decide) _ xs.length (xs.map (Value.int .i64)) rfl (HOC.out.alloc _) ⟨w7.heap.size, 0, none⟩ 1 1 [.int .i64 st] rfl rfl ?c1 ?c2 ?c3 ?c4 ?c5 ?_))
            case c1 => exact fun j u hu => by rw [cells_push (cs := #[.int .i64 st]) (t := 3) rfl]; simpa using hu
            case c2 => simp [Value.oneCell']
            case c3 => unfold maxLen; omega
            case c4 => omega
            case c5 => have := HBW.out.size; simp; omega
            intro v' V3 hown3 hg4 _ hat4
            obtain ⟨g4, cp4, rfl⟩ := ownsRow_succ hown3
            have HN := hide (show OpenRel x ps w4 (.slice (some ⟨g4, 0, none⟩) (xs.length + 1) cp4) (.int .i64 ((k : Int) + 1)) V3 from ⟨k + 1, some ⟨g4, 0, none⟩, cp4, xs ++ [st], hlt, by go_num, by simp, by
              show V3.ownsRow _ _ _ _ _ _
              rw [List.map_append, List.length_append]; exact hown3, by rw [HTK.out]; exact HRK.out.add HOT.out HTL.out, (HBW.out.alloc HBW.out.size _).grown hg4 (by have := HBW.out.size; simp; omega) (fun g hg => by rw [ob_eq] at hg; exact (own_ob HOC.out g hg).1)⟩)
            clear hown3 hg4 hat4
            go_wp2_with fail
            exact ⟨HN.out, by simp [intOf]; omega⟩
          · have HOT := hide hopen
            clear hopen
            have HOPT := hide (HOP.out.mono (fun e w7 h => (show e = .returned (.bool false) ∧ Below w6.heap.size w6 w7 from by
              obtain ⟨b, rfl, hb, hb7⟩ := h
              cases b with
              | false => exact ⟨rfl, hb7⟩
              | true => exact absurd ((open_iff (fun t => HL6.out.2 rfl t) hb).1 rfl) HOT.out)))
            clear HOP
            go_wp2_with (go_at_call 64; refine HOPT.out.mono ?_; rintro e w7 ⟨rfl, hb7⟩; have HB7 := hide (bstep HB6'.out hb7); clear hb7)
            exact ⟨⟨k + 1, A, c, xs, hlt, by go_num, rfl, own_block HOWN.out fun g hg => HB7.out.block g (own_ob HOWN.out g hg).2, by rw [HTK.out]; exact HRK.out.skip HOT.out, bstep HBR.out HB7.out⟩, by simp [intOf]; omega⟩
      · have hke : k = ps.length := by omega
        subst hke
        have HE := hide (show OpenPost a' ev cs f t en w (.returned (.tuple #[.slice A xs.length c, .int .i64 0])) wr from ⟨bstep HB4'.out HBR.out, .inr ⟨HPO.out, A, c, xs, rfl, Joins.ownsRow_le HOWN.out HB4'.out.size, by have h1 := HRK.out.len; rw [List.length_take] at h1; omega, by
          have h1 := HRK.out
          rw [List.take_length] at h1
          have h2 := HSI.out.isOpen (h1.fin HLIST.out)
          rw [HEN.out] at h2
          exact h2⟩⟩)
        go_wp2_with fail
        exact bodyPost_ret (v := .tuple #[.slice A xs.length c, .int .i64 0]) (by simp [results, Try.results35, go_sem]) rfl HE.out
  · have HPN := hide hpo
    have HP := hide (hp.mono (fun e w2 h => (show Below W0.heap.size W0 w2 ∧ e = .returned (.tuple #[.agg #[.slice none 0 0, .slice none 0 0, .slice none 0 0, .slice none 0 0, .slice none 0 0, .slice none 0 0, .int .i64 0], .int .i64 1]) from ⟨h.1, h.2.elim (fun ⟨_, x, hx, he⟩ => by rw [he, hx]) (fun h => absurd h.1 hpo)⟩)))
    clear hp hpo
    go_enter Try.func35, Try.ntmps35
    go_upto_region 1 with (fail)
    rw [HW0.out]
    go_upto_region 2 with (go_at_call 56; refine HP.out.mono ?_; rintro e w2 ⟨hb2, rfl⟩; have HB2 := hide hb2)
    have HE := hide (show OpenPost a' ev cs f t en w (.returned (.tuple #[.slice none 0 0, .int .i64 1])) (w2.alloc (.cells #[.slice none 0 0, .slice none 0 0, .slice none 0 0, .slice none 0 0, .slice none 0 0, .slice none 0 0, .int .i64 0] 83)) from ⟨(bstep HB0.out HB2.out).alloc (bstep HB0.out HB2.out).size _, .inl ⟨HPN.out, rfl⟩⟩)
    go_wp2_with fail
    exact bodyPost_ret (v := .tuple #[.slice none 0 0, .int .i64 1]) (by simp [results, Try.results35, go_sem]) rfl HE.out

end Go.Proofs.Ytkbiefklilelmaa

/-
  wavestorelaw55.awake: true.
-/
namespace Go.Proofs.Ytkbiefklilelmaa
open Go.RowKit

theorem infoNd : (Try.prog.info? 105).map (fun i => (i.zero, i.size, i.bytes)) = some (some (.agg #[.int .i64 0, .int .i64 0, .string ByteArray.empty, .string ByteArray.empty, .int .i64 0, .int .i64 0, .int .i64 0, .int .i64 0, .slice none 0 0]), 9, 104) := by kernel_rfl
/-- a row that fills a block -/
theorem row_block {α : Type} {w : World} {N m : Nat} {cs : Array Value} {t : TypeId} {cells : α → List Value} {xs : List α} (h : w.heap[N]? = some (.cells cs t (0, 0))) (hf : ∀ x, (cells x).length = m) (hc : cs = (xs.flatMap cells).toArray) : Row w (Lo w.heap.size) m cells (some ⟨N, 0, none⟩) xs := fun _ => by
  refine ⟨N, 0, rfl, box_lt h, fun i x hi j hj => ?_⟩
  rw [Nat.zero_add, cell_of_row w N _ cs t (0, 0) h, hc, List.getElem?_toArray]
  exact flat_at cells m hf hi hj
theorem ints_block {w : World} {N : Nat} {cs : Array Value} {t : TypeId} {zs : List Int} (h : w.heap[N]? = some (.cells cs t (0, 0))) (hc : cs = (zs.map (Value.int .i64)).toArray) : IntsAt w w.heap.size (some ⟨N, 0, none⟩) zs := fun _ => by
  refine ⟨N, 0, rfl, box_lt h, fun i z hi => ?_⟩
  rw [Nat.zero_add, cell_of_row w N _ cs t (0, 0) h, hc, List.getElem?_toArray, List.getElem?_map, hi]
  rfl
theorem ivs_block {w : World} {N : Nat} {cs : Array Value} {t : TypeId} {zs : List Iv} (h : w.heap[N]? = some (.cells cs t (0, 0))) (hc : cs = (encIvs zs).toArray) : IvsAt w w.heap.size (some ⟨N, 0, none⟩) zs := fun _ => by
  refine ⟨N, 0, rfl, box_lt h, fun i z hi => ?_⟩
  obtain ⟨e1, e2⟩ := encIvs_at hi
  exact ⟨by rw [Nat.zero_add, cell_of_row w N _ cs t (0, 0) h, hc, List.getElem?_toArray]; exact e1, by rw [Nat.zero_add, cell_of_row w N _ cs t (0, 0) h, hc, List.getElem?_toArray]; exact e2⟩

/-- equal lists of integers -/
def IntsRel5 (w : World) (xs : List Int) (i : Value) (wr : World) : Prop := ∃ k : Nat, k ≤ xs.length ∧ i = .int .i64 k ∧ Below w.heap.size w wr
set_option maxHeartbeats 1000000 in
theorem ints_eq5 (A B : Option Addr) (c d : Nat) (xs : List Int) (w : World) (hx : IntsAt w w.heap.size A xs) (hy : IntsAt w w.heap.size B xs) (hl : xs.length ≤ 4398046511104) :
    Calls Try.prog 37 #[.slice A xs.length c, .slice B xs.length d] w fun e w' => e = .returned (.bool true) ∧ Below w.heap.size w w' := by
  go_enter Try.func37, Try.ntmps37
  go_wp2_with fail
  go_loopw [5] (fun i wr => IntsRel5 w xs i wr) (fun i _ => xs.length - (intOf i).toNat)
  case atStart => exact ⟨0, Nat.zero_le _, rfl, Below.refl _ _⟩
  case round =>
    obtain ⟨k, hk, rfl, hb⟩ := hrel
    by_cases hlt : k < xs.length
    · obtain ⟨b, off, rfl, hbb, hc1⟩ := (hx.below hb).at_ hlt
      obtain ⟨b', off', rfl, hbb', hc1'⟩ := (hy.below hb).at_ hlt
      have hd1 : decide ((k : Int) < (xs.length : Int)) = true := decide_eq_true (by omega)
      have hq0 : (0 : Int) ≤ (k : Int) := by omega
      go_wp2_with fail
      go_quiet (fail)
      go_wp2_with fail
      go_roundw
      case rel => exact ⟨k + 1, by omega, by go_num, below_drewN hb _⟩
      case measure => simp [intOf]; omega
    · go_wp2_with fail
      go_ret
      exact ⟨rfl, hb⟩


def awA (M N : Nat) : Aut := ⟨some ⟨M, 0, none⟩, 2, 2, none, 0, 0, some ⟨N, 0, none⟩, 3, [false, false, true], some ⟨N + 1, 0, none⟩, 2, [aw1, aw2]⟩
def awE (N : Nat) : List SlI := [⟨some ⟨N + 1 + 1 + 1, 0, none⟩, 2, [1, 8]⟩, ⟨some ⟨N + 1 + 1 + 1 + 1, 0, none⟩, 3, [3, 4, 20]⟩]
theorem aw_prep (M N : Nat) (t : Int) (h0 : 0 ≤ t) (h1 : t ≤ 100) : PrepOk (awA M N) (awE N) 0 0 t t := by
  refine ⟨?_, fun s hs => ?_⟩
  · have hv : validB (awA M N) = true := rfl
    unfold prepB
    rw [hv, Bool.true_and]
    exact decide_eq_true ⟨rfl, rfl, by omega, h0, by omega, by omega⟩
  · simp only [awE, List.mem_cons, List.not_mem_nil, or_false] at hs
    rcases hs with rfl | rfl
    · exact ⟨by simp, by simp⟩
    · exact ⟨by simp, by simp⟩
theorem aw_le (M N : Nat) : AutLe (awA M N) := by
  refine ⟨by simp [awA], by simp [awA], by simp [awA], by simp [awA], fun x hx => ?_⟩
  simp only [awA, List.mem_cons, List.not_mem_nil, or_false] at hx
  rcases hx with rfl | rfl <;> simp [I64E, I64, aw1, aw2]

theorem chain6 (w1 : World) (a b c d e f : Obj) {V : World} (hV : (((((w1.alloc a).alloc b).alloc c).alloc d).alloc e).alloc f = V) : V.heap[w1.heap.size]? = some a ∧ V.heap[w1.heap.size + 1]? = some b ∧ V.heap[w1.heap.size + 1 + 1]? = some c ∧ V.heap[w1.heap.size + 1 + 1 + 1]? = some d ∧ V.heap[w1.heap.size + 1 + 1 + 1 + 1]? = some e ∧ V.heap[w1.heap.size + 1 + 1 + 1 + 1 + 1]? = some f ∧ Below w1.heap.size w1 V := by
  have e1 := heap_alloc_new (w1.alloc a) b
  have e2 := heap_alloc_new ((w1.alloc a).alloc b) c
  have e3 := heap_alloc_new (((w1.alloc a).alloc b).alloc c) d
  have e4 := heap_alloc_new ((((w1.alloc a).alloc b).alloc c).alloc d) e
  have e5 := heap_alloc_new (((((w1.alloc a).alloc b).alloc c).alloc d).alloc e) f
  have s1 : (w1.alloc a).heap.size = w1.heap.size + 1 := by simp
  have s2 : ((w1.alloc a).alloc b).heap.size = w1.heap.size + 1 + 1 := by simp
  have s3 : (((w1.alloc a).alloc b).alloc c).heap.size = w1.heap.size + 1 + 1 + 1 := by simp
  have s4 : ((((w1.alloc a).alloc b).alloc c).alloc d).heap.size = w1.heap.size + 1 + 1 + 1 + 1 := by simp
  have s5 : (((((w1.alloc a).alloc b).alloc c).alloc d).alloc e).heap.size = w1.heap.size + 1 + 1 + 1 + 1 + 1 := by simp
  rw [s1] at e1
  rw [s2] at e2
  rw [s3] at e3
  rw [s4] at e4
  rw [s5] at e5
  subst hV
  refine ⟨box_alloc (box_alloc (box_alloc (box_alloc (box_alloc (heap_alloc_new w1 a))))), box_alloc (box_alloc (box_alloc (box_alloc e1))), box_alloc (box_alloc (box_alloc e2)), box_alloc (box_alloc e3), box_alloc e4, e5, ?_⟩
  exact ((((((Below.refl _ _).alloc (Nat.le_refl _) _).alloc (by omega) _).alloc (by omega) _).alloc (by omega) _).alloc (by omega) _).alloc (by omega) _

set_option maxRecDepth 100000 in
set_option maxHeartbeats 4000000 in
theorem awake55 (w : World) : Calls Try.prog 31 #[] w fun e w' => e = .returned (.bool true) ∧ Below w.heap.size w w' := by
  obtain ⟨i0, hi0, hz0, hz1, hz2⟩ := info_parts infoNd
  obtain ⟨w1, hmk, _, hg1⟩ := run_make_full (P := Try.prog) (w := w) w.heap.size 46 105 i0 _ 9 Try.underlying46 hi0 hz0 hz1 .i64 .i64 2 (by rw [hz2]; omega) (by simp [maxLen]) (Nat.le_refl _)
  have hmk : (Instr.makeSlice 46 (.int .i64 2) (.int .i64 2)).run Try.prog w = .ok (.slice (some ⟨w.heap.size, 0, none⟩) 2 2) w1 := hmk
  have hb1 : Below w.heap.size w w1 := (Below.refl _ _).grown hg1 (Nat.le_refl _) (fun k e => by cases e)
  have hM := hb1.size
  generalize w.heap.size = M at *
  have HB1 := hide hb1
  have HM := hide hM
  clear hi0 hz0 hz1 hz2 hg1 hb1 hM
  go_enter Try.func31, Try.ntmps31
  go_upto_region 3 with fail
  obtain ⟨V, hV⟩ : ∃ V, (((((w1.alloc (.cells #[.bool false, .bool false, .bool true] 4)).alloc (.cells #[.int .i64 0, .int .i64 1, .int .i64 0, .int .i64 (-1), .int .i64 0, .int .i64 0, .int .i64 1, .int .i64 2, .int .i64 1, .int .i64 (-1), .int .i64 1, .int .i64 5] 81)).alloc (.cells #[.slice (some ⟨M, 0, none⟩) 2 2, .slice none 0 0, .slice (some ⟨w1.heap.size, 0, none⟩) 3 3, .slice (some ⟨w1.heap.size + 1, 0, none⟩) 2 2] 50)).alloc (.cells #[.int .i64 1, .int .i64 8] 3)).alloc (.cells #[.int .i64 3, .int .i64 4, .int .i64 20] 3)).alloc (.cells #[.slice (some ⟨w1.heap.size + 1 + 1 + 1, 0, none⟩) 2 2, .slice (some ⟨w1.heap.size + 1 + 1 + 1 + 1, 0, none⟩) 3 3] 36) = V := ⟨_, rfl⟩
  rw [hV]
  obtain ⟨p0, p1, p2, p3, p4, p5, hbV⟩ := chain6 _ _ _ _ _ _ _ hV
  have HBV := hide (HB1.out.trans (hbV.mono HM.out))
  have HMV := hide (Nat.le_trans HM.out hbV.size)
  clear hbV HM HB1
  generalize w1.heap.size = N at *
  have HA := hide (show AutAt V (Lo V.heap.size) (awA M N) from ⟨row_block p0 (fun _ => rfl) rfl, row_block p1 (fun _ => rfl) rfl⟩)
  have HE := hide (show EvAt V (some ⟨N + 1 + 1 + 1 + 1 + 1, 0, none⟩) (awE N) from ⟨row_block p5 (fun _ => rfl) rfl, fun s hs => by
    simp only [awE, List.mem_cons, List.not_mem_nil, or_false] at hs
    rcases hs with rfl | rfl
    · exact ints_block p3 rfl
    · exact ints_block p4 rfl⟩)
  have HP2 := hide p2
  clear hV p0 p1 p3 p4 p5 p2
  have HRUN := hide (show Calls Try.prog 32 #[.agg #[.slice (some ⟨M, 0, none⟩) 2 2, .slice none 0 0, .slice (some ⟨N, 0, none⟩) 3 3, .slice (some ⟨N + 1, 0, none⟩) 2 2], .slice (some ⟨N + 1 + 1 + 1 + 1 + 1, 0, none⟩) 2 2, .slice none 0 0, .int .i64 0, .int .i64 25, .int .i64 25] V (fun e w' => ∃ A c, e = .returned (.tuple #[.slice A 1 c, .int .i64 0]) ∧ IvsAt w' w'.heap.size A [(1, 3)] ∧ Below V.heap.size V w') from
    (run_any (awA M N) (some ⟨N + 1 + 1 + 1 + 1 + 1, 0, none⟩) 2 (awE N) none 0 [] 0 25 25 V HA.out (aw_le M N) HE.out ⟨Row.nil, fun s hs => by cases hs⟩ (by simp [awA]) (by simp [awE]) (by simp) (by simp [awE]) (by simp)).mono fun e w' h => by
      obtain ⟨hb, ⟨hno, _⟩ | ⟨_, A, c, xs, rfl, hown, _, hrun⟩⟩ := h
      · exact absurd (aw_prep M N 25 (by omega) (by omega)) hno
      · have hx : xs = [(1, 3)] := IsRun.uniq (x := awI) hrun aw_run
        subst hx
        exact ⟨A, c, rfl, OwnOc.ats hown, hb⟩)
  have HOPEN := hide (show ∀ U, Below V.heap.size V U → Calls Try.prog 35 #[.agg #[.slice (some ⟨M, 0, none⟩) 2 2, .slice none 0 0, .slice (some ⟨N, 0, none⟩) 3 3, .slice (some ⟨N + 1, 0, none⟩) 2 2], .slice (some ⟨N + 1 + 1 + 1 + 1 + 1, 0, none⟩) 2 2, .slice none 0 0, .int .i64 0, .int .i64 10, .int .i64 10] U (fun e w' => ∃ A c, e = .returned (.tuple #[.slice A 1 c, .int .i64 0]) ∧ IntsAt w' w'.heap.size A [8] ∧ Below U.heap.size U w') from fun U hU =>
    (open_any (awA M N) (some ⟨N + 1 + 1 + 1 + 1 + 1, 0, none⟩) 2 (awE N) none 0 [] 0 10 10 U (HA.out.grow hU) (aw_le M N) (HE.out.step hU) ⟨Row.nil, fun s hs => by cases hs⟩ (by simp [awA]) (by simp [awE]) (by simp) (by simp [awE]) (by simp)).mono fun e w' h => by
      obtain ⟨hb, ⟨hno, _⟩ | ⟨_, A, c, xs, rfl, hown, _, hrun⟩⟩ := h
      · exact absurd (aw_prep M N 10 (by omega) (by omega)) hno
      · have hx : xs = [8] := IsOpen.uniq (x := awI) hrun aw_open
        subst hx
        exact ⟨A, c, rfl, OwnInt.ats hown, hb⟩)
  obtain ⟨y0, y1, y2, y3, -⟩ := box4 HP2.out
  clear HA HE hmk
  go_upto_region 4 with (go_at_call 32; refine HRUN.out.mono ?_; rintro e U ⟨A, c, rfl, hI, hU⟩; have HU := hide hU; have HI := hide hI; clear hU hI)
  have HOP := hide (HOPEN.out U HU.out)
  clear y0 y1 y2 y3
  obtain ⟨y0, y1, y2, y3, -⟩ := box4 ((HU.out.block _ (box_lt HP2.out)).trans HP2.out)
  clear HRUN HOPEN
  go_upto_region 5 with (go_at_call 35; refine HOP.out.mono ?_; rintro e U2 ⟨A2, c2, rfl, hI2, hU2⟩; have HU2 := hide hU2; have HI2 := hide hI2; clear hU2 hI2)
  clear y0 y1 y2 y3 HOP
  obtain ⟨U3, hU3⟩ : ∃ U3, U2.alloc (.cells #[.int .i64 1, .int .i64 3] 64) = U3 := ⟨_, rfl⟩
  have g3 := new_at hU3
  have hb3 : Below U2.heap.size U2 U3 := by rw [← hU3]; exact (Below.refl _ _).alloc (Nat.le_refl _) _
  have HS := hide (osame_any A (some ⟨U2.heap.size, 0, none⟩) c 1 [(1, 3)] [(1, 3)] U3 ((HI.out.step HU2.out).step hb3) (ivs_block g3 rfl) (by simp) (by simp))
  have HB3 := hide (bstep (bstep HU.out HU2.out) hb3)
  have HI3 := hide (HI2.out.step hb3)
  have HU3 := hide hU3
  clear hU3 g3 hb3 HI HI2
  go_wp2_with (first
    | (go_at_call 34
       rw [HU3.out]
       refine HS.out.mono ?_
       rintro e U4 ⟨rfl, q, rfl⟩)
    | (go_at_call 37
       have hb5 : Below U3.heap.size U3 ((U3.drewN q).alloc (.cells #[.int .i64 8] 3)) := (below_drewN (Below.refl _ _) q).alloc (Nat.le_refl _) _
       refine (ints_eq5 A2 (some ⟨U3.heap.size, 0, none⟩) c2 1 [8] ((U3.drewN q).alloc (.cells #[.int .i64 8] 3)) (HI3.out.step hb5) (ints_block (heap_alloc_new (U3.drewN q) _) rfl) (by simp)).mono ?_
       rintro e U6 ⟨rfl, b6⟩
       have HB6 := hide (HBV.out.trans ((bstep (bstep HB3.out hb5) b6).mono HMV.out))
       clear hb5 b6))
  go_ret
  exact ⟨rfl, HB6.out⟩

end Go.Proofs.Ytkbiefklilelmaa

/-
  Plain laws of matches: a later end, a part of a range, a number added to all times. No program in sight.
-/
namespace Go.Proofs.Ytkbiefklilelmaa

theorem nth_mem {α : Type} {l : List (List α)} {i : Int} {y : α} (h : y ∈ nth l i) : ∃ r ∈ l, y ∈ r := by
  unfold nth at h
  rw [List.getD_eq_getElem?_getD] at h
  cases hx : l[i.toNat]? with
  | none => rw [hx] at h; simp at h
  | some r => rw [hx] at h; exact ⟨r, List.mem_of_getElem? hx, by simpa using h⟩

section
variable {x : Inp} {st en later : Int}
theorem HoldW.less {cs : List (List Iv)} {wh u v v' : Int} (h : HoldW cs wh u v) (hv : v' ≤ v) : HoldW cs wh u v' := by
  rcases h with h | h
  · exact .inl h
  · exact .inr fun t h1 h2 => h t h1 (by omega)
theorem Rch.more (hl : en ≤ later) {s t : Int} (h : Rch x st en s t) : Rch x st later s t := by
  induction h with
  | base e he h0 hs => exact .base e he h0 hs
  | step u e t h he hg ih => exact .step u e t ih he ⟨hg.1, hg.2.1, hg.2.2.1, Int.le_trans hg.2.2.2.1 hl, hg.2.2.2.2⟩
/-- what is reached by a later end at a time up to an end is reached by that end -/
theorem Rch.cut (hlow : ∀ e ∈ x.edges, 0 ≤ e.low) {s t : Int} (h : Rch x st later s t) (ht : t ≤ en) : Rch x st en s t := by
  induction h with
  | base e he h0 hs => exact .base e he h0 hs
  | step u e t h he hg ih =>
    have := hlow e he
    have := hg.2.1
    exact .step u e t (ih (by omega)) he ⟨hg.1, hg.2.1, hg.2.2.1, ht, hg.2.2.2.2⟩
/-- a way to a time behind an end has a last point up to that end -/
theorem Rch.over (hlow : ∀ e ∈ x.edges, 0 ≤ e.low) (hse : st ≤ en) {s t : Int} (h : Rch x st later s t) (ht : en < t) : ∃ u, ∃ e ∈ x.edges, Rch x st en e.from_ u ∧ en - u < e.high ∧ HoldW x.cs e.while_ u (en + 1) := by
  induction h with
  | base e he h0 hs => omega
  | step u e t h he hg ih =>
    by_cases hu : en < u
    · exact ih hu
    · refine ⟨u, e, he, h.cut hlow (by omega), ?_, hg.2.2.2.2.less (by omega)⟩
      have := hg.2.2.1
      omega

theorem ends_law (hlow : ∀ e ∈ x.edges, 0 ≤ e.low) {to_ : Int} (hte : to_ ≤ en) (hl : en ≤ later) {xs ys : List Iv} {os : List Int}
    (hx : IsRun x 0 to_ en xs) (hy : IsRun x 0 to_ later ys) (ho : IsOpen x 0 to_ en os) : (∀ p ∈ xs, p ∈ ys) ∧ ∀ p ∈ ys, p ∉ xs → p.1 ∈ os ∧ en < p.2 := by
  constructor
  · intro p hp
    obtain ⟨h1, ⟨s, h2, h3⟩, h4⟩ := (hx.2 p).1 hp
    refine (hy.2 p).2 ⟨h1, ⟨s, h2.more hl, h3⟩, fun t ⟨s', h5, h6⟩ => ?_⟩
    rcases Int.lt_or_le en t with h7 | h7
    · have := h2.end_ (by have := h1.2.1; omega)
      omega
    · exact h4 t ⟨s', h5.cut hlow h7, h6⟩
  · intro p hp hn
    obtain ⟨h1, ⟨s, h2, h3⟩, h4⟩ := (hy.2 p).1 hp
    have hno : ¬ ∃ t, FinS x p.1 en t := by
      rintro ⟨t, s', h5, h6⟩
      have hte' := h5.end_ (by have := h1.2.1; omega)
      have hle := h4 t ⟨s', h5.more hl, h6⟩
      exact hn ((hx.2 p).2 ⟨h1, ⟨s, h2.cut hlow (by omega), h3⟩, fun u ⟨s2, h8, h9⟩ => h4 u ⟨s2, h8.more hl, h9⟩⟩)
    have hlt : en < p.2 := Int.not_le.1 fun hle => hno ⟨p.2, s, h2.cut hlow hle, h3⟩
    exact ⟨(ho.2 p.1).2 ⟨h1, hno, h2.over hlow (by have := h1.2.1; omega) hlt⟩, hlt⟩

/-- a part of a range -/
theorem part_law {from_ to_ a b : Int} (h1 : from_ ≤ a) (h2 : b ≤ to_) {xs ys : List Iv} (hx : IsRun x from_ to_ en xs) (hy : IsRun x a b en ys) : ys = xs.filter fun p => decide (a ≤ p.1) && decide (p.1 ≤ b) := by
  refine sorted_ext (fun p : Iv => p.1) hy.1 (hx.1.filter _) fun p => ?_
  rw [List.mem_filter, hy.2, hx.2, Bool.and_eq_true, decide_eq_true_iff, decide_eq_true_iff]
  unfold StartS
  constructor
  · rintro ⟨⟨h3, h4, h5⟩, h6⟩
    exact ⟨⟨⟨by omega, by omega, h5⟩, h6⟩, h3, h4⟩
  · rintro ⟨⟨⟨_, _, h5⟩, h6⟩, h3, h4⟩
    exact ⟨⟨h3, h4, h5⟩, h6⟩

/-- the second input is the first one, all times of which up to an end have been moved -/
structure MovedI (x y : Inp) (en by_ : Int) : Prop where
  edges : y.edges = x.edges
  fin : y.fin = x.fin
  ev : ∀ i t, t ≤ en → (t ∈ nth x.ev i ↔ t + by_ ∈ nth y.ev i)
  cs : ∀ i t, 0 ≤ t → t ≤ en → (Mem (nth x.cs i) t ↔ Mem (nth y.cs i) (t + by_))

theorem HoldW.move {y : Inp} {by_ : Int} (hm : MovedI x y en by_) {wh u v : Int} (hu : 0 ≤ u) (hv : v ≤ en) : HoldW x.cs wh u v ↔ HoldW y.cs wh (u + by_) (v + by_) := by
  unfold HoldW
  constructor
  · rintro (h | h)
    · exact .inl h
    · refine .inr fun t h1 h2 => ?_
      have := (hm.cs wh (t - by_) (by omega) (by omega)).1 (h (t - by_) (by omega) (by omega))
      rwa [Int.sub_add_cancel] at this
  · rintro (h | h)
    · exact .inl h
    · exact .inr fun t h1 h2 => (hm.cs wh t (by omega) (by omega)).2 (h (t + by_) (by omega) (by omega))
theorem Rch.move {y : Inp} {by_ : Int} (hm : MovedI x y en by_) (hlow : ∀ e ∈ x.edges, 0 ≤ e.low) (h0 : 0 ≤ st) (hse : st ≤ en) {s t : Int} (h : Rch x st en s t) : Rch y (st + by_) (en + by_) s (t + by_) := by
  induction h with
  | base e he hf hs => exact .base e (by rw [hm.edges]; exact he) hf ((hm.ev _ _ hse).1 hs)
  | step u e t h he hg ih =>
    have := h.time hlow
    obtain ⟨g1, g2, g3, g4, g5⟩ := hg
    exact .step (u + by_) e (t + by_) ih (by rw [hm.edges]; exact he) ⟨(hm.ev _ _ g4).1 g1, by omega, by omega, by omega, (HoldW.move hm (by omega) g4).1 g5⟩
theorem Rch.back {y : Inp} {by_ : Int} (hm : MovedI x y en by_) (hlow : ∀ e ∈ x.edges, 0 ≤ e.low) (h0 : 0 ≤ st) (hse : st ≤ en) {st' en' s t : Int} (h : Rch y st' en' s t) (h1 : st' = st + by_) (h2 : en' = en + by_) : Rch x st en s (t - by_) := by
  subst h1 h2
  induction h with
  | base e he hf hs =>
    rw [Int.add_sub_cancel]
    exact .base e (by rw [← hm.edges]; exact he) hf ((hm.ev _ _ hse).2 hs)
  | step u e t h he hg ih =>
    have h3 := ih.time hlow
    obtain ⟨g1, g2, g3, g4, g5⟩ := hg
    refine .step (u - by_) e (t - by_) ih (by rw [← hm.edges]; exact he) ⟨(hm.ev _ _ (by omega)).2 (by rwa [Int.sub_add_cancel]), by omega, by omega, by omega, (HoldW.move hm (by omega) (by omega)).2 ?_⟩
    rwa [Int.sub_add_cancel, Int.sub_add_cancel]
theorem rch_move {y : Inp} {by_ : Int} (hm : MovedI x y en by_) (hlow : ∀ e ∈ x.edges, 0 ≤ e.low) (h0 : 0 ≤ st) (hse : st ≤ en) (s t : Int) : Rch x st en s t ↔ Rch y (st + by_) (en + by_) s (t + by_) :=
  ⟨Rch.move hm hlow h0 hse, fun h => by have := Rch.back hm hlow h0 hse h rfl rfl; rwa [Int.add_sub_cancel] at this⟩

def mv (by_ : Int) (p : Iv) : Iv := (p.1 + by_, p.2 + by_)
theorem move_law {y : Inp} {by_ : Int} (hm : MovedI x y en by_) (hlow : ∀ e ∈ x.edges, 0 ≤ e.low) {from_ to_ : Int} (h0 : 0 ≤ from_) (hte : to_ ≤ en) {xs ys : List Iv} (hx : IsRun x from_ to_ en xs) (hy : IsRun y (from_ + by_) (to_ + by_) (en + by_) ys) : ys = xs.map (mv by_) := by
  refine sorted_ext (fun p : Iv => p.1) hy.1 ?_ fun p => ?_
  · rw [List.pairwise_map]
    exact hx.1.imp fun h => by unfold mv; simp only; omega
  · have key : ∀ q : Iv, (StartS y (from_ + by_) (to_ + by_) (q.1 + by_) ∧ LeastOf (FinS y (q.1 + by_) (en + by_)) (q.2 + by_)) ↔ (StartS x from_ to_ q.1 ∧ LeastOf (FinS x q.1 en) q.2) := by
      rintro ⟨a, b⟩
      dsimp only
      have hs : StartS y (from_ + by_) (to_ + by_) (a + by_) ↔ StartS x from_ to_ a := by
        unfold StartS
        rw [hm.edges]
        constructor
        · rintro ⟨h1, h2, e, he, h3, h4⟩
          exact ⟨by omega, by omega, e, he, h3, (hm.ev _ _ (by omega)).2 h4⟩
        · rintro ⟨h1, h2, e, he, h3, h4⟩
          exact ⟨by omega, by omega, e, he, h3, (hm.ev _ _ (by omega)).1 h4⟩
      rw [hs]
      refine and_congr_right fun hst => ?_
      have hf : ∀ t, FinS x a en t ↔ FinS y (a + by_) (en + by_) (t + by_) := fun t => by
        unfold FinS
        rw [hm.fin]
        exact ⟨fun ⟨s, h1, h2⟩ => ⟨s, (rch_move hm hlow (by have := hst.1; omega) (by have := hst.2.1; omega) s t).1 h1, h2⟩, fun ⟨s, h1, h2⟩ => ⟨s, (rch_move hm hlow (by have := hst.1; omega) (by have := hst.2.1; omega) s t).2 h1, h2⟩⟩
      unfold LeastOf
      rw [hf]
      refine and_congr_right fun _ => ⟨fun h t ht => ?_, fun h t ht => ?_⟩
      · have := h (t + by_) ((hf t).1 ht)
        omega
      · have := h (t - by_) ((hf _).2 (by rwa [Int.sub_add_cancel]))
        omega
    rw [hy.2, List.mem_map]
    constructor
    · intro h
      refine ⟨(p.1 - by_, p.2 - by_), (hx.2 _).2 ((key _).1 ?_), ?_⟩
      · simpa [Int.sub_add_cancel] using h
      · unfold mv; simp only [Int.sub_add_cancel]
    · rintro ⟨q, hq, rfl⟩
      exact (key q).2 ((hx.2 q).1 hq)
end

/-- how far the comparison of two sorted lists has come: so many of xs lie among the first k of ys, the others behind -/
def Eaten (xs ys : List Iv) (k n : Nat) : Prop := n ≤ xs.length ∧ (∀ i p, i < n → xs[i]? = some p → p ∈ ys.take k) ∧ ∀ i p, n ≤ i → xs[i]? = some p → p ∈ ys.drop k
theorem Eaten.zero {xs ys : List Iv} (h : ∀ p ∈ xs, p ∈ ys) : Eaten xs ys 0 0 := ⟨Nat.zero_le _, fun i p hi => absurd hi (Nat.not_lt_zero _), fun i p _ hp => by simpa using h p (List.mem_of_getElem? hp)⟩
theorem pw_lt {xs : List Iv} (h : xs.Pairwise fun a b => a.1 < b.1) {i j : Nat} {a b : Iv} (hij : i < j) (ha : xs[i]? = some a) (hb : xs[j]? = some b) : a.1 < b.1 := by
  obtain ⟨h1, rfl⟩ := List.getElem?_eq_some_iff.1 ha
  obtain ⟨h2, rfl⟩ := List.getElem?_eq_some_iff.1 hb
  exact List.pairwise_iff_getElem.1 h i j h1 h2 hij
theorem drop_next {ys : List Iv} {k : Nat} {m p : Iv} (hk : ys[k]? = some m) (h : p ∈ ys.drop k) (hne : p ≠ m) : p ∈ ys.drop (k + 1) := by
  obtain ⟨hl, rfl⟩ := List.getElem?_eq_some_iff.1 hk
  rw [List.drop_eq_getElem_cons hl] at h
  rcases List.mem_cons.1 h with h | h
  · exact absurd h hne
  · exact h
theorem Eaten.hit {xs ys : List Iv} (hx : xs.Pairwise fun a b => a.1 < b.1) {k n : Nat} {m : Iv} (h : Eaten xs ys k n) (hk : ys[k]? = some m) (hn : xs[n]? = some m) : Eaten xs ys (k + 1) (n + 1) := by
  have hl := (List.getElem?_eq_some_iff.1 hn).1
  refine ⟨hl, fun i p hi hp => ?_, fun i p hi hp => drop_next hk (h.2.2 i p (by omega) hp) fun e => ?_⟩
  · rcases Nat.lt_or_ge i n with h1 | h1
    · exact List.take_subset_take_left _ (Nat.le_succ k) (h.2.1 i p h1 hp)
    · have : i = n := by omega
      subst this
      rw [hn] at hp
      injection hp with hp
      subst hp
      obtain ⟨hl', rfl⟩ := List.getElem?_eq_some_iff.1 hk
      rw [List.take_succ_eq_append_getElem hl']
      exact List.mem_append_right _ (List.mem_singleton.2 rfl)
  · have := pw_lt hx (by omega : n < i) hn hp
    rw [e] at this
    omega
theorem Eaten.miss {xs ys : List Iv} (hx : xs.Pairwise fun a b => a.1 < b.1) (hy : ys.Pairwise fun a b => a.1 < b.1) {k n : Nat} {m : Iv} (h : Eaten xs ys k n) (hk : ys[k]? = some m) (hn : xs[n]? ≠ some m) : Eaten xs ys (k + 1) n ∧ m ∉ xs := by
  have hfar : ∀ p, p ∈ ys.drop k → m.1 ≤ p.1 := fun p hp => by
    obtain ⟨j, hj⟩ := List.getElem?_of_mem hp
    rw [List.getElem?_drop] at hj
    rcases Nat.eq_zero_or_pos j with h0 | h0
    · subst h0
      rw [Nat.add_zero, hk] at hj
      injection hj with hj
      rw [hj]
      exact Int.le_refl _
    · have := pw_lt hy (by omega : k < k + j) hk hj
      omega
  have hne : ∀ i p, n ≤ i → xs[i]? = some p → p ≠ m := fun i p hi hp e => by
    subst e
    rcases Nat.lt_or_ge n i with h1 | h1
    · have hl : n < xs.length := by have := (List.getElem?_eq_some_iff.1 hp).1; omega
      have h2 := pw_lt hx h1 (List.getElem?_eq_getElem hl) hp
      have h3 := hfar _ (h.2.2 n _ (Nat.le_refl _) (List.getElem?_eq_getElem hl))
      omega
    · have : i = n := by omega
      subst this
      exact hn hp
  refine ⟨⟨h.1, fun i p hi hp => List.take_subset_take_left _ (Nat.le_succ k) (h.2.1 i p hi hp), fun i p hi hp => drop_next hk (h.2.2 i p hi hp) (hne i p hi hp)⟩, fun hm => ?_⟩
  obtain ⟨i, hi⟩ := List.getElem?_of_mem hm
  rcases Nat.lt_or_ge i n with h1 | h1
  · have h2 := h.2.1 i m h1 hi
    obtain ⟨j, hj⟩ := List.getElem?_of_mem h2
    rw [List.getElem?_take] at hj
    split at hj
    · rename_i hjk
      have := pw_lt hy hjk hj hk
      omega
    · cases hj
  · exact hne i m h1 hi rfl
theorem Eaten.done {xs ys : List Iv} {n : Nat} (h : Eaten xs ys ys.length n) : n = xs.length := by
  rcases Nat.lt_or_ge n xs.length with h1 | h1
  · have := h.2.2 n _ (Nat.le_refl _) (List.getElem?_eq_getElem h1)
    rw [List.drop_length] at this
    simp at this
  · have := h.1
    omega

end Go.Proofs.Ytkbiefklilelmaa
