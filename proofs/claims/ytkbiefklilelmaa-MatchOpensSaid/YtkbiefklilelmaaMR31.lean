/-
  Several texts in one: Run. Each says at its head what it holds.
-/
import Derived.Test.YtkbiefklilelmaaMR27
import Derived.Test.YtkbiefklilelmaaMR28
import Derived.Test.YtkbiefklilelmaaMR30
import Derived.Deep.RegionLaw
import Derived.Deep.DeepCutAuto

/-
  match.Run: the first matches that begin in a range.
-/
namespace Go.Proofs.Ytkbiefklilelmaa
open Go.RowKit

abbrev OwnOc (w : World) (base : Nat) (A : Option Addr) (c : Nat) (xs : List Iv) : Prop := w.ownsRow base 64 2 (.slice A xs.length c) xs.length (encIvs xs)
def inpOf (a : Aut) (ev : List SlI) (cs : List SlV) : Inp := ⟨a.edges, a.fin, ev.map SlI.xs, cs.map SlV.xs⟩
/-- what Run answers -/
def RunPost (a : Aut) (ev : List SlI) (cs : List SlV) (f t en : Int) (w : World) (e : Ending) (w' : World) : Prop :=
  Below w.heap.size w w' ∧ ((¬ PrepOk a ev cs.length f t en ∧ e = .returned (.tuple #[.slice none 0 0, .int .i64 1])) ∨
    (PrepOk a ev cs.length f t en ∧ ∃ A c xs, e = .returned (.tuple #[.slice A xs.length c, .int .i64 0]) ∧ OwnOc w' w.heap.size A c xs ∧ xs.length ≤ 960 ∧ IsRun (inpOf a ev cs) f t en xs))
/-- the loop over the starts: so many have been taken -/
def RunRel (x : MIn) (ps : List Int) (W : World) (out i : Value) (wr : World) : Prop :=
  ∃ (k : Nat) (A : Option Addr) (c : Nat) (xs : List Iv), k ≤ ps.length ∧ i = .int .i64 k ∧ out = .slice A xs.length c ∧ OwnOc wr W.heap.size A c xs ∧ RunK x.inp x.en (ps.take k) xs ∧ Below W.heap.size W wr

theorem infoOc : (Try.prog.info? 64).map (fun i => (i.zero, i.size, i.bytes)) = some (some (.agg #[.int .i64 0, .int .i64 0]), 2, 16) := by kernel_rfl

set_option maxRecDepth 100000 in
set_option maxHeartbeats 8000000 in
theorem run_any (a : Aut) (AV : Option Addr) (cV : Nat) (ev : List SlI) (AC' : Option Addr) (cC' : Nat) (cs : List SlV) (f t en : Int) (w : World) (ha : AutAt w (Lo w.heap.size) a) (hle : AutLe a) (hev : EvAt w AV ev) (hcs : CsAt w AC' cs)
    (h1 : a.edges.length ≤ 40) (h2 : ev.length ≤ 40) (h3 : cs.length ≤ 40) (h4 : ∀ s ∈ ev, s.xs.length ≤ 24) (h5 : ∀ s ∈ cs, s.xs.length ≤ 1000000000000) :
    Calls Try.prog 32 #[.agg (encA a).toArray, .slice AV ev.length cV, .slice AC' cs.length cC', .int .i64 f, .int .i64 t, .int .i64 en] w (RunPost a ev cs f t en w) := by
  obtain ⟨a', ha'⟩ : ∃ a', a = a' := ⟨_, rfl⟩
  obtain ⟨W0, hW0⟩ : ∃ W0, w.alloc (.cells (encA a).toArray 50) = W0 := ⟨_, rfl⟩
  have g0 := new_at hW0
  have hb0 : Below w.heap.size w W0 := by rw [← hW0]; exact (Below.refl _ _).alloc (Nat.le_refl _) _
  have hp := prepare_any a AV cV ev AC' cC' cs f t en W0 (ha.grow hb0) hle (hev.step hb0) (hcs.step hb0) (by omega) (by omega) (fun s hs => by have := h4 s hs; omega) h5
  have HA := hide (ha.grow hb0)
  have HEV := hide (hev.step hb0)
  have HMOK := hide (fun AS cS cs' hpo hss => mok_of (a := a) (AV := AV) (cV := cV) (AS := AS) (cS := cS) (ev := ev) (cs := cs) (cs' := cs') (f := f) (t := t) (en := en) hpo hss h1 h2 h3 h4)
  have HB0 := hide hb0
  rw [ha'] at hp g0 hW0 HA HMOK ⊢
  obtain ⟨AE, nE, cE, AC, nC, cC, AF, cF, fin, AX, cX, edges⟩ := a
  have hX : encA a' = [.slice AE nE cE, .slice AC nC cC, .slice AF fin.length cF, .slice AX edges.length cX] := by rw [← ha']; rfl
  have HEX := hide hX
  rw [hX] at hp g0 hW0 ⊢
  have HG0 := hide g0
  have HW0 := hide hW0
  obtain ⟨k0, k1, k2, k3, -⟩ := box4 g0
  clear hX ha' hW0 g0 hb0 ha hle hev hcs h1 h2 h3 h4 h5
  by_cases hpo : PrepOk a' ev cs.length f t en
  · have HPO := hide hpo
    have HP := hide (hp.mono (fun e w2 h => (show Below W0.heap.size W0 w2 ∧ ∃ AS cS cs', e = .returned (.tuple #[.agg (encX ⟨a', AV, cV, ev, AS, cS, cs', en⟩).toArray, .int .i64 0]) ∧ CsAt w2 AS cs' ∧ SameSets cs cs' from ⟨h.1, h.2.elim (fun h => absurd hpo h.1) (fun h => h.2)⟩)))
    clear hp hpo
    go_enter Try.func32, Try.ntmps32
    go_upto_region 1 with (fail)
    rw [HW0.out]
    go_upto_region 2 with (go_at_call 56; refine HP.out.mono ?_; rintro e w2 ⟨hb2, AS, cS, cs', rfl, hcs2, hss⟩; have HCS2 := hide hcs2; have HSS := hide hss; have HB2 := hide hb2; unfold encX; rw [HEX.out])
    obtain ⟨x, hx⟩ : ∃ x : MIn, (⟨a', AV, cV, ev, AS, cS, cs', en⟩ : MIn) = x := ⟨_, rfl⟩
    have hEX : encX x = [.slice AE nE cE, .slice AC nC cC, .slice AF fin.length cF, .slice AX edges.length cX, .slice AV ev.length cV, .slice AS cs'.length cS, .int .i64 en] := by rw [← hx]; unfold encX; rw [HEX.out]; rfl
    have hen : x.en = en := by rw [← hx]
    obtain ⟨mok, hnm, f0, f1, f2⟩ := HMOK.out AS cS cs' HPO.out HSS.out
    have hSI : SameIn (inpOf a' ev cs) x.inp := by rw [← hx]; exact ⟨rfl, rfl, rfl, fun wh u v => hold_same HSS.out wh u v⟩
    have hMA : MAt w2 x := by rw [← hx]; exact ⟨HA.out.grow HB2.out, HEV.out.step HB2.out, HCS2.out⟩
    rw [hx] at mok
    have hnm : ∀ s ∈ x.cs, Norm s.xs := by rw [← hx]; exact hnm
    obtain ⟨W3, hW3⟩ : ∃ W3, w2.alloc (.cells #[.slice AE nE cE, .slice AC nC cC, .slice AF fin.length cF, .slice AX edges.length cX, .slice AV ev.length cV, .slice AS cs'.length cS, .int .i64 en] 83) = W3 := ⟨_, rfl⟩
    have g3 := new_at hW3
    have hb3 : Below w2.heap.size w2 W3 := by rw [← hW3]; exact (Below.refl _ _).alloc (Nat.le_refl _) _
    have HMA := hide (hMA.step hb3)
    have HB3 := hide (bstep (bstep HB0.out HB2.out) hb3)
    have HG3 := hide g3
    have HOK := hide mok
    have HNM := hide hnm
    have HSI := hide hSI
    have HEN := hide hen
    have HEE := hide hEX
    have HSTR := hide (starts_any x f t W3 HMA.out mok)
    obtain ⟨x0, x1, x2, x3, x4, x5, x6⟩ := box7 g3
    rw [hW3]
    clear hx hEX hen hSI hMA hnm mok hW3 g3 hb3 hb2 hcs2 hss HCS2 HSS HMOK HP HA HEV HG0 HW0 k0 k1 k2 k3 HB2 HEX
    go_upto_region 6 with (go_at_call 57; rw [HEE.out] at HSTR; refine HSTR.out.mono ?_; rintro e w4 ⟨A4, c4, ps, rfl, hown4, hb4, hlist⟩; have HOWN4 := hide hown4; have HB4 := hide hb4; have HLIST := hide hlist)
    have HPS := hide (starts_few HOK.out HLIST.out)
    have HB4' := hide (bstep HB3.out HB4.out)
    have HG4 := hide ((HB4.out.block _ (box_lt HG3.out)).trans HG3.out)
    have HMA4 := hide (HMA.out.step HB4.out)
    have HI4 := hide HOWN4.out.ats
    have HST := hide (show ∀ q ∈ ps, 0 ≤ q ∧ q ≤ x.en from fun q hq => by obtain ⟨h1, h2, _⟩ := (HLIST.out.2 q).1 hq; rw [HEN.out]; omega)
    clear x0 x1 x2 x3 x4 x5 x6 hown4 hb4 hlist HSTR HMA HB3 HG3 hnm
    generalize w2.heap.size = Bx at *
    go_wp2_with fail
    go_loopw [16, 39] (fun out i wr => RunRel x ps w4 out i wr) (fun _ i _ => ps.length - (intOf i).toNat)
    case atStart => exact ⟨0, none, 0, [], Nat.zero_le _, rfl, rfl, World.ownsRow_nil _ _ _ 2, by rw [List.take_zero]; exact RunK.nil, Below.refl _ _⟩
    case round =>
      obtain ⟨k, A, c, xs, hk, rfl, rfl, hown, hrk, hbr⟩ := hrel
      have HOWN := hide hown
      have HRK := hide hrk
      have HBR := hide hbr
      clear hown hrk hbr
      have hpl := HPS.out
      by_cases hlt : k < ps.length
      · obtain ⟨bp, op, rfl, hbp, e0⟩ := (HI4.out.step HBR.out).at_ hlt
        have hst := HST.out _ (List.getElem_mem hlt)
        have HTK := hide (take_succ' hlt)
        have HTL := hide (take_lt HLIST.out.1 hlt)
        generalize ps[k] = st at *
        have hreach := reach_any x st wr.drew (HMA4.out.step (below_drew HBR.out)) HOK.out HNM.out hst
        rw [HEE.out] at hreach
        have HREACH := hide hreach
        have gw := (HBR.out.block _ (box_lt HG4.out)).trans HG4.out
        have HGW := hide gw
        obtain ⟨x0, x1, x2, x3, x4, x5, x6⟩ := box7 gw
        clear hreach gw
        go_upto_region 8 with (fail)
        clear e0
        go_cut [19, 20] (fun v b wx => ∃ v' b', v = .int .i64 v' ∧ b = .bool b' ∧ LeastB (FinS x.inp st x.en) v' b' ∧ Below w4.heap.size w4 wx ∧ Below wr.heap.size wr wx)
        case first =>
          go_region_law
            (first
              | (go_simp
                 go_at_call 59
                 refine HREACH.out.mono ?_
                 rintro e w5 ⟨B, n, rfl, hb5, hB, hn, hmp⟩
                 have HB5 := hide (show Below wr.heap.size wr w5 from ⟨hb5.os, hb5.tape, hb5.output, hb5.size, hb5.block⟩)
                 have hends := ends_any x B n _ w5 (HMA4.out.step (bstep HBR.out HB5.out)) hmp (fun s t h => rch_64 HOK.out hst h) (fun s t h => (rch_in HOK.out hst h).1) HOK.out.fin
                 rw [HEE.out] at hends
                 have HENDS := hide hends
                 obtain ⟨y0, y1, y2, y3, y4, y5, y6⟩ := box7 ((HB5.out.block _ (box_lt HGW.out)).trans HGW.out)
                 clear hends hmp hb5 hB hn)
              | (go_simp
                 go_at_call 58
                 refine HENDS.out.mono ?_
                 rintro e w6 ⟨v, okv, rfl, hl6, hb6⟩
                 have HL6 := hide hl6
                 have HB6 := hide hb6
                 clear hl6 hb6)
              | fail)
          all_goals
            go_wp2_with fail
            go_meet
            exact ⟨v, okv, rfl, rfl, HL6.out, bstep (bstep HBR.out HB5.out) HB6.out, bstep HB5.out HB6.out⟩
        case rest =>
          obtain ⟨v, okv, rfl, rfl, hl, hbw, hbr6⟩ := hcut
          have HL := hide hl
          have HBW := hide hbw
          have HBR6 := hide hbr6
          clear hl hbw hbr6 x0 x1 x2 x3 x4 x5 x6 HREACH
          cases okv with
          | false =>
            have HN := hide (show RunRel x ps w4 (.slice A xs.length c) (.int .i64 ((k : Int) + 1)) wc from ⟨k + 1, A, c, xs, hlt, by go_num, rfl, own_block HOWN.out fun g hg => HBR6.out.block g (own_ob HOWN.out g hg).2, by rw [HTK.out]; exact HRK.out.skip fun t => HL.out.2 rfl t, HBW.out⟩)
            go_wp2_with fail
            exact ⟨HN.out, by simp [intOf]; omega⟩
          | true =>
            have hxl : xs.length ≤ 960 := by have h1 := HRK.out.len; rw [List.length_take] at h1; have h2 := HPS.out; omega
            have T1 : ((xs.length : Int) == 1024) = false := beq_eq_false_iff_ne.2 (by omega)
            obtain ⟨i0, hi0, hz0, hz1, hz2⟩ := info_parts infoOc
            have HI := hide hi0
            have HZ0 := hide hz0
            have HZ1 := hide hz1
            have HZ2 := hide hz2
            have HOC := hide (own_block (w' := wc) HOWN.out fun g hg => HBR6.out.block g (own_ob HOWN.out g hg).2)
            clear hi0 hz0 hz1 hz2
            go_upto_region 12 with (fail)
            clear T1
            go_wp2_with (at_builtin; (refine wpList_append_own_at _ rfl _ _ 54 rfl w4.heap.size 64 i0 _ 2 16 Try.underlying54 HI.out HZ0.out HZ1.out HZ2.out rfl (by decide) _ xs.length (encIvs xs) rfl (HOC.out.alloc _) ⟨wc.heap.size, 0, none⟩ 1 1 [.int .i64 st, .int .i64 v] rfl rfl ?c1 ?c2 ?c3 ?c4 ?c5 ?_))
            case c1 => exact fun j u hu => by rw [cells_push (cs := #[.int .i64 st, .int .i64 v]) (t := 64) rfl]; simpa using hu
            case c2 => simp [Value.oneCell']
            case c3 => unfold maxLen; omega
            case c4 => omega
            case c5 => have := HBW.out.size; simp; omega
            intro v' V3 hown3 hg4 _ hat4
            obtain ⟨g4, cp4, rfl⟩ := ownsRow_succ hown3
            have HN := hide (show RunRel x ps w4 (.slice (some ⟨g4, 0, none⟩) (xs.length + 1) cp4) (.int .i64 ((k : Int) + 1)) V3 from ⟨k + 1, some ⟨g4, 0, none⟩, cp4, xs ++ [(st, v)], hlt, by go_num, by simp, by
              show V3.ownsRow _ _ _ _ _ _
              rw [encIvs_snoc, List.length_append]; exact hown3, by rw [HTK.out]; exact HRK.out.add (HL.out.1 rfl) HTL.out, (HBW.out.alloc HBW.out.size _).grown hg4 (by have := HBW.out.size; simp; omega) (fun g hg => by rw [ob_eq] at hg; exact (own_ob HOC.out g hg).1)⟩)
            clear hown3 hg4 hat4
            go_wp2_with fail
            exact ⟨HN.out, by simp [intOf]; omega⟩
      · have hke : k = ps.length := by omega
        subst hke
        have HE := hide (show RunPost a' ev cs f t en w (.returned (.tuple #[.slice A xs.length c, .int .i64 0])) wr from ⟨bstep HB4'.out HBR.out, .inr ⟨HPO.out, A, c, xs, rfl, Joins.ownsRow_le HOWN.out HB4'.out.size, by have h1 := HRK.out.len; rw [List.length_take] at h1; omega, by
          have h1 := HRK.out
          rw [List.take_length] at h1
          have h2 := HSI.out.isRun (h1.fin HLIST.out)
          rw [HEN.out] at h2
          exact h2⟩⟩)
        go_wp2_with fail
        exact bodyPost_ret (v := .tuple #[.slice A xs.length c, .int .i64 0]) (by simp [results, Try.results32, go_sem]) rfl HE.out
  · have HPN := hide hpo
    have HP := hide (hp.mono (fun e w2 h => (show Below W0.heap.size W0 w2 ∧ e = .returned (.tuple #[.agg #[.slice none 0 0, .slice none 0 0, .slice none 0 0, .slice none 0 0, .slice none 0 0, .slice none 0 0, .int .i64 0], .int .i64 1]) from ⟨h.1, h.2.elim (fun ⟨_, x, hx, he⟩ => by rw [he, hx]) (fun h => absurd h.1 hpo)⟩)))
    clear hp hpo
    go_enter Try.func32, Try.ntmps32
    go_upto_region 1 with (fail)
    rw [HW0.out]
    go_upto_region 2 with (go_at_call 56; refine HP.out.mono ?_; rintro e w2 ⟨hb2, rfl⟩; have HB2 := hide hb2)
    have HE := hide (show RunPost a' ev cs f t en w (.returned (.tuple #[.slice none 0 0, .int .i64 1])) (w2.alloc (.cells #[.slice none 0 0, .slice none 0 0, .slice none 0 0, .slice none 0 0, .slice none 0 0, .slice none 0 0, .int .i64 0] 83)) from ⟨(bstep HB0.out HB2.out).alloc (bstep HB0.out HB2.out).size _, .inl ⟨HPN.out, rfl⟩⟩)
    go_wp2_with fail
    exact bodyPost_ret (v := .tuple #[.slice none 0 0, .int .i64 1]) (by simp [results, Try.results32, go_sem]) rfl HE.out

end Go.Proofs.Ytkbiefklilelmaa
