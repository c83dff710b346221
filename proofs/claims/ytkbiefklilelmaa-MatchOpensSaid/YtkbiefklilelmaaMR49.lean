/-
  Several texts in one: RefRun. Each says at its head what it holds.
-/
import Derived.Test.YtkbiefklilelmaaMR43
import Derived.Test.YtkbiefklilelmaaMR45
import Derived.Test.YtkbiefklilelmaaMR46
import Derived.Test.YtkbiefklilelmaaMR48
import Derived.Test.YtkbiefklilelmaaMR31

/-
  wavestoreref55.Run: the first matches that begin in a range.
-/
namespace Go.Proofs.Ytkbiefklilelmaa
open Go.RowKit

/-- the arguments as they are, when they fit together -/
theorem mok_raw {a : Aut} {AV AS : Option Addr} {cV cS : Nat} {ev : List SlI} {cs : List SlV} {f t en : Int} (hp : PrepOk a ev cs.length f t en) (h1 : a.edges.length ≤ 40) (h2 : ev.length ≤ 40) (h3 : cs.length ≤ 40) (h4 : ∀ s ∈ ev, s.xs.length ≤ 24) (h5 : ∀ s ∈ cs, s.xs.length ≤ 1000000000000) :
    MOk ⟨a, AV, cV, ev, AS, cS, cs, en⟩ ∧ 0 ≤ f ∧ f ≤ t ∧ t ≤ en := by
  obtain ⟨hb, hi⟩ := hp
  unfold prepB at hb
  rw [Bool.and_eq_true] at hb
  obtain ⟨e1, e2, e3⟩ := valid_edge hb.1
  have hd := of_decide_eq_true hb.2
  refine ⟨⟨h1, e1, ?_, e3, h2, h3, fun s hs => ⟨h4 s hs, hi s hs⟩, h5, by show 0 ≤ en; omega, by show en ≤ _; omega⟩, by omega, by omega, by omega⟩
  show ∀ e ∈ a.edges, EdgOk a.fin.length ev.length cs.length e
  rw [hd.1, hd.2.1]
  exact e2
theorem OwnOc.nil (w : World) (base : Nat) (hb : base ≤ w.heap.size) : OwnOc (w.alloc (.cells #[] 64)) base (some ⟨w.heap.size, 0, none⟩) 0 [] := World.ownsRow_lit w #[] 0 hb (by simp [maxLen]) rfl
theorem fin_iff {x : Inp} {st en : Int} (t : Int) : FinOf x.fin (Rch x st en) t ↔ FinS x st en t := Iff.rfl
theorem mok_few {x : MIn} (ok : MOk x) : x.ev.length ≤ 1000000 ∧ ∀ s ∈ x.ev, s.xs.length ≤ 1000000 := ⟨by have := ok.nev; omega, fun s hs => by have := (ok.evs s hs).1; omega⟩

/-- the loop over the starts: so many have been taken -/
def RRunRel (x : MIn) (ps : List Int) (A4 : Option Addr) (c4 : Nat) (W : World) (out i : Value) (wr : World) : Prop :=
  ∃ (k : Nat) (A : Option Addr) (c : Nat) (xs : List Iv), k ≤ ps.length ∧ i = .int .i64 k ∧ out = .slice A xs.length c ∧ OwnOc wr W.heap.size A c xs ∧ OwnInt wr W.heap.size A4 c4 ps ∧ RunK x.inp x.en (ps.take k) xs ∧ Below W.heap.size W wr
theorem typesOI : 64 ≠ 3 := by decide

set_option maxRecDepth 100000 in
set_option maxHeartbeats 8000000 in
theorem rrun_any (a : Aut) (AV : Option Addr) (cV : Nat) (ev : List SlI) (AC' : Option Addr) (cC' : Nat) (cs : List SlV) (f t en : Int) (w : World) (ha : AutAt w (Lo w.heap.size) a) (hle : AutLe a) (hev : EvAt w AV ev) (hcs : CsAt w AC' cs)
    (h1 : a.edges.length ≤ 40) (h2 : ev.length ≤ 40) (h3 : cs.length ≤ 40) (h4 : ∀ s ∈ ev, s.xs.length ≤ 24) (h5 : ∀ s ∈ cs, s.xs.length ≤ 1000000000000) :
    Calls Try.prog 33 #[.agg (encA a).toArray, .slice AV ev.length cV, .slice AC' cs.length cC', .int .i64 f, .int .i64 t, .int .i64 en] w (RunPost a ev cs f t en w) := by
  obtain ⟨a', ha'⟩ : ∃ a', a = a' := ⟨_, rfl⟩
  obtain ⟨W0, hW0⟩ : ∃ W0, w.alloc (.cells (encA a).toArray 50) = W0 := ⟨_, rfl⟩
  have g0 := new_at hW0
  have hb0 : Below w.heap.size w W0 := by rw [← hW0]; exact (Below.refl _ _).alloc (Nat.le_refl _) _
  have hp := rfits_any a AV cV ev AC' cC' cs.length f t en W0 (ha.grow hb0) hle (hev.step hb0) (by omega) (by omega) (fun s hs => by have := h4 s hs; omega)
  have HMA := hide (show MAt W0 ⟨a, AV, cV, ev, AC', cC', cs, en⟩ from ⟨ha.grow hb0, hev.step hb0, hcs.step hb0⟩)
  have HMOK := hide (fun hpo => mok_raw (a := a) (AV := AV) (cV := cV) (AS := AC') (cS := cC') (ev := ev) (cs := cs) (f := f) (t := t) (en := en) hpo h1 h2 h3 h4 h5)
  have HB0 := hide hb0
  have hfn := a.fin.length
  rw [ha'] at hp g0 hW0 HMA HMOK ⊢
  obtain ⟨AE, nE, cE, AC, nC, cC, AF, cF, fin, AX, cX, edges⟩ := a
  have hX : encA a' = [.slice AE nE cE, .slice AC nC cC, .slice AF fin.length cF, .slice AX edges.length cX] := by rw [← ha']; rfl
  have HEX := hide hX
  have HFN := hide (show a'.fin.length = fin.length from by rw [← ha'])
  rw [hX] at hp g0 hW0 ⊢
  have HG0 := hide g0
  have HW0 := hide hW0
  obtain ⟨k0, k1, k2, k3, -⟩ := box4 g0
  clear hX ha' hW0 g0 hb0 ha hle hev hcs h1 h2 h3 h4 h5
  by_cases hpo : PrepOk a' ev cs.length f t en
  · have HPO := hide hpo
    have HP := hide (hp.mono (fun e w2 h => (show e = .returned (.bool true) ∧ Below W0.heap.size W0 w2 from by obtain ⟨b, rfl, hb, hb2⟩ := h; rw [hb.2 hpo]; exact ⟨rfl, hb2⟩)))
    clear hp hpo
    obtain ⟨x, hx⟩ : ∃ x : MIn, (⟨a', AV, cV, ev, AC', cC', cs, en⟩ : MIn) = x := ⟨_, rfl⟩
    obtain ⟨mok, f0, f1, f2⟩ := HMOK.out HPO.out
    rw [hx] at mok
    have HOK := hide mok
    have HM := hide (show MAt W0 x from by rw [← hx]; exact HMA.out)
    have HXE := hide (show encA x.a = [.slice AE nE cE, .slice AC nC cC, .slice AF fin.length cF, .slice AX edges.length cX] ∧ x.AV = AV ∧ x.cV = cV ∧ x.ev = ev ∧ x.AS = AC' ∧ x.cS = cC' ∧ x.cs = cs ∧ x.en = en ∧ x.a.fin.length = fin.length ∧ x.a = a' from by rw [← hx]; exact ⟨HEX.out, rfl, rfl, rfl, rfl, rfl, rfl, rfl, HFN.out, rfl⟩)
    have HIN := hide (show inpOf a' ev cs = x.inp from by rw [← hx]; rfl)
    clear mok hx HMA HMOK
    go_enter Try.func33, Try.ntmps33
    go_upto_region 1 with (fail)
    rw [HW0.out]
    go_upto_region 4 with (go_at_call 60; refine HP.out.mono ?_; rintro e w2 ⟨rfl, hb2⟩; have HB2 := hide hb2; clear hb2)
    clear k0 k1 k2 k3 HP
    obtain ⟨W3, hW3⟩ : ∃ W3, w2.alloc (.cells #[] 64) = W3 := ⟨_, rfl⟩
    have hb3 : Below w2.heap.size w2 W3 := by rw [← hW3]; exact (Below.refl _ _).alloc (Nat.le_refl _) _
    have HOC3 := hide (show OwnOc W3 w2.heap.size (some ⟨w2.heap.size, 0, none⟩) 0 [] from by rw [← hW3]; exact OwnOc.nil w2 _ (Nat.le_refl _))
    have HB3 := hide (bstep HB2.out hb3)
    have HB23 := hide hb3
    rw [hW3]
    have hst := rstarts_any x f t W3 (HM.out.step HB3.out) HOK.out
    rw [HXE.out.1, HXE.out.2.1, HXE.out.2.2.1, HXE.out.2.2.2.1] at hst
    have HSTR := hide hst
    obtain ⟨k0, k1, k2, k3, -⟩ := box4 ((HB3.out.block _ (box_lt HG0.out)).trans HG0.out)
    clear hW3 hb3 hst
    go_upto_region 5 with (go_at_call 61; refine HSTR.out.mono ?_; rintro e w4 ⟨A4, c4, ps, rfl, hown4, hb4, hlist⟩; have HOWN4 := hide hown4; have HB4 := hide hb4; have HLIST := hide hlist; clear hown4 hb4 hlist)
    clear k0 k1 k2 k3 HSTR
    have HPS := hide (starts_few HOK.out HLIST.out)
    have HST := hide (show ∀ q ∈ ps, 0 ≤ q ∧ q ≤ x.en from fun q hq => by obtain ⟨h1, h2, _⟩ := (HLIST.out.2 q).1 hq; rw [HXE.out.2.2.2.2.2.2.2.1]; omega)
    have HB24 := hide (bstep HB23.out HB4.out)
    have HOC4 := hide (own_block (w' := w4) HOC3.out fun g hg => HB4.out.block g (own_ob HOC3.out g hg).2)
    clear HOC3
    go_wp2_with fail
    go_loopw [14, 16] (fun out i wr => RRunRel x ps A4 c4 w2 out i wr) (fun _ i _ => ps.length - (intOf i).toNat)
    case atStart => exact ⟨0, _, 0, [], Nat.zero_le _, rfl, rfl, HOC4.out, HOWN4.out.lower HB23.out.size, by rw [List.take_zero]; exact RunK.nil, HB24.out⟩
    case round =>
      obtain ⟨wr1, rfl⟩ : ∃ w2 : World, w2 = wr := ⟨_, rfl⟩
      obtain ⟨k, A, c, xs, hk, rfl, rfl, hown, hop, hrk, hbr⟩ := hrel
      have HOWN := hide hown
      have HOP := hide hop
      have HRK := hide hrk
      have HBR := hide hbr
      have HBR0 := hide (bstep HB2.out hbr)
      clear hown hop hrk hbr
      have hpl := HPS.out
      have hxl : xs.length ≤ 960 := by have h1 := HRK.out.len; rw [List.length_take] at h1; omega
      by_cases hlt : k < ps.length
      · obtain ⟨bp, op, rfl, hbp, e0⟩ := HOP.out.ats.at_ hlt
        have hst := HST.out _ (List.getElem_mem hlt)
        have HTK := hide (take_succ' hlt)
        have HTL := hide (take_lt HLIST.out.1 hlt)
        generalize ps[k] = st at *
        have hreach := rreach_any x st wr1.drew (HM.out.step (below_drew HBR0.out)) HOK.out hst
        rw [HXE.out.1, HXE.out.2.1, HXE.out.2.2.1, HXE.out.2.2.2.1, HXE.out.2.2.2.2.1, HXE.out.2.2.2.2.2.1, HXE.out.2.2.2.2.2.2.1, HXE.out.2.2.2.2.2.2.2.1] at hreach
        have HREACH := hide hreach
        have gw := (HBR0.out.block _ (box_lt HG0.out)).trans HG0.out
        have HGW := hide gw
        obtain ⟨x0, x1, x2, x3, -⟩ := box4 gw
        clear hreach gw
        go_upto_region 8 with (fail)
        go_cut [17, 18] (fun v b wx => ∃ v' b', v = .int .i64 v' ∧ b = .bool b' ∧ LeastB (FinS x.inp st x.en) v' b' ∧ Below wr1.heap.size wr1 wx)
        case first =>
          go_region_law
            (first
              | (go_simp
                 go_at_call 63
                 refine HREACH.out.mono ?_
                 rintro e w5 ⟨Bo, os, rfl, hn5, hr5, hp5, hb5⟩
                 rw [HXE.out.2.2.2.2.2.2.2.2.1]
                 have HB5 := hide (show Below wr1.heap.size wr1 w5 from ⟨hb5.os, hb5.tape, hb5.output, hb5.size, hb5.block⟩)
                 have hfirst := rfirst_any x.a _ Bo os (Rch x.inp st x.en) w5 ((HM.out.step (bstep HBR0.out HB5.out)).aut) HOK.out.fin hn5 hr5 hp5 (fun s t h => ⟨(rch_in HOK.out hst h).1, (rch_in HOK.out hst h).2.1, by have := (rch_in HOK.out hst h).2.2; have := HOK.out.e1; omega⟩)
                 rw [HXE.out.1, HXE.out.2.2.2.2.2.2.2.2.1] at hfirst
                 have HFIRST := hide hfirst
                 obtain ⟨y0, y1, y2, y3, -⟩ := box4 ((HB5.out.block _ (box_lt HGW.out)).trans HGW.out)
                 clear hfirst hn5 hr5 hp5 hb5)
              | (go_simp
                 go_at_call 62
                 refine HFIRST.out.mono ?_
                 rintro e w6 ⟨v, okv, rfl, hl6, hb6⟩
                 have HL6 := hide hl6
                 have HB6 := hide hb6
                 clear hl6 hb6)
              | fail)
          all_goals
            go_wp2_with fail
            go_meet
            exact ⟨v, okv, rfl, rfl, HL6.out, bstep HB5.out HB6.out⟩
        case rest =>
          obtain ⟨v, okv, rfl, rfl, hl, hbw⟩ := hcut
          have HL := hide hl
          have HBW := hide hbw
          have HBW2 := hide (bstep HBR.out hbw)
          have HOC := hide (own_block (w' := wc) HOWN.out fun g hg => hbw.block g (own_ob HOWN.out g hg).2)
          have HOPW := hide (own_block (w' := wc) HOP.out fun g hg => hbw.block g (own_ob HOP.out g hg).2)
          have e1 := (hbw.cell (p := ⟨bp, op + k, none⟩) hbp).trans e0
          clear hl hbw x0 x1 x2 x3 HREACH e0
          cases okv with
          | false =>
            have HN := hide (show RRunRel x ps (some ⟨bp, op, none⟩) c4 w2 (.slice A xs.length c) (.int .i64 ((k : Int) + 1)) wc from ⟨k + 1, A, c, xs, hlt, by go_num, rfl, HOC.out, HOPW.out, by rw [HTK.out]; exact HRK.out.skip fun t => HL.out.2 rfl t, HBW2.out⟩)
            go_wp2_with fail
            exact ⟨HN.out, by simp [intOf]; omega⟩
          | true =>
            obtain ⟨i0, hi0, hz0, hz1, hz2⟩ := info_parts infoOc
            have HI := hide hi0
            have HZ0 := hide hz0
            have HZ1 := hide hz1
            have HZ2 := hide hz2
            clear hi0 hz0 hz1 hz2
            go_wp2_with (at_builtin; (refine wpList_append_own_at _ rfl _ _ 54 rfl w2.heap.size 64 i0 _ 2 16 Try.underlying54 HI.out HZ0.out HZ1.out HZ2.out rfl (by decide) _ xs.length (encIvs xs) rfl (HOC.out.alloc _) ⟨wc.heap.size, 0, none⟩ 1 1 [.int .i64 st, .int .i64 v] rfl rfl ?c1 ?c2 ?c3 ?c4 ?c5 ?_))
            case c1 => exact fun j u hu => by rw [cells_push (cs := #[.int .i64 st, .int .i64 v]) (t := 64) rfl]; simpa using hu
            case c2 => simp [Value.oneCell']
            case c3 => unfold maxLen; omega
            case c4 => omega
            case c5 => have := HBW2.out.size; simp; omega
            intro v' V3 hown3 hg4 _ hat4
            obtain ⟨g4, cp4, rfl⟩ := ownsRow_succ hown3
            have HOP3 := hide (show OwnInt V3 w2.heap.size (some ⟨bp, op, none⟩) c4 ps from own_block HOPW.out fun g hg => (hg4.block g (by have := (own_ob HOPW.out g hg).2; simp; omega) (by rw [ob_eq]; exact fun e => rows_apart HOC.out HOPW.out typesOI g hg e.symm)).trans (Below.heap_alloc wc _ g (own_ob HOPW.out g hg).2))
            have HN := hide (show RRunRel x ps (some ⟨bp, op, none⟩) c4 w2 (.slice (some ⟨g4, 0, none⟩) (xs.length + 1) cp4) (.int .i64 ((k : Int) + 1)) V3 from ⟨k + 1, some ⟨g4, 0, none⟩, cp4, xs ++ [(st, v)], hlt, by go_num, by simp, by
              show V3.ownsRow _ _ _ _ _ _
              rw [encIvs_snoc, List.length_append]; exact hown3, HOP3.out, by rw [HTK.out]; exact HRK.out.add (HL.out.1 rfl) HTL.out, (HBW2.out.alloc HBW2.out.size _).grown hg4 (by have := HBW2.out.size; simp; omega) (fun g hg => by rw [ob_eq] at hg; exact (own_ob HOC.out g hg).1)⟩)
            clear hown3 hg4 hat4
            go_wp2_with fail
            exact ⟨HN.out, by simp [intOf]; omega⟩
      · have hke : k = ps.length := by omega
        have T1 : decide ((1024 : Int) < (xs.length : Int)) = false := decide_eq_false (by omega)
        have HE := hide (show RunPost a' ev cs f t en w (.returned (.tuple #[.slice A xs.length c, .int .i64 0])) wr1 from ⟨bstep HB0.out HBR0.out, .inr ⟨HPO.out, A, c, xs, rfl, Joins.ownsRow_le HOWN.out (Nat.le_trans HB0.out.size HB2.out.size), hxl, by
          have h1 := HRK.out
          rw [hke, List.take_length] at h1
          have h2 := h1.fin HLIST.out
          rw [HXE.out.2.2.2.2.2.2.2.1, ← HIN.out] at h2
          exact h2⟩⟩)
        clear hke
        go_wp2_with fail
        exact bodyPost_ret (v := .tuple #[.slice A xs.length c, .int .i64 0]) (by simp [results, Try.results33, go_sem]) rfl HE.out
  · have HPN := hide hpo
    have HP := hide (hp.mono (fun e w2 h => (show e = .returned (.bool false) ∧ Below W0.heap.size W0 w2 from by
      obtain ⟨b, rfl, hb, hb2⟩ := h
      cases b with
      | false => exact ⟨rfl, hb2⟩
      | true => exact absurd (hb.1 rfl) hpo)))
    clear hp hpo
    go_enter Try.func33, Try.ntmps33
    go_upto_region 1 with (fail)
    rw [HW0.out]
    go_wp2_with (go_at_call 60; refine HP.out.mono ?_; rintro e w2 ⟨rfl, hb2⟩; have HB2 := hide hb2; clear hb2)
    have HE := hide (show RunPost a' ev cs f t en w (.returned (.tuple #[.slice none 0 0, .int .i64 1])) w2 from ⟨bstep HB0.out HB2.out, .inl ⟨HPN.out, rfl⟩⟩)
    exact bodyPost_ret (v := .tuple #[.slice none 0 0, .int .i64 1]) (by simp [results, Try.results33, go_sem]) rfl HE.out

end Go.Proofs.Ytkbiefklilelmaa
