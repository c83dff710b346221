/-
  Several texts in one: RefOpen. Each says at its head what it holds.
-/
import Derived.Test.YtkbiefklilelmaaMR49
import Derived.Test.YtkbiefklilelmaaMR41
import Derived.Test.YtkbiefklilelmaaMR34

/-
  wavestoreref55.Open: the open times of a range.
-/
namespace Go.Proofs.Ytkbiefklilelmaa
open Go.RowKit

/-- the loop over the starts: so many have been taken -/
def ROpenRel (x : MIn) (ps : List Int) (A4 : Option Addr) (c4 : Nat) (W : World) (out i : Value) (wr : World) : Prop :=
  ∃ (k : Nat) (A : Option Addr) (c : Nat) (xs : List Int), k ≤ ps.length ∧ i = .int .i64 k ∧ out = .slice A xs.length c ∧ OwnInt wr W.heap.size A c xs ∧ OwnInt wr W.heap.size A4 c4 ps ∧ (∀ g, ob A = some g → ob A4 ≠ some g) ∧ OpenK x.inp x.en (ps.take k) xs ∧ Below W.heap.size W wr
/-- the search for an edge that can go on: so many have been looked at -/
def ROpK (x : Inp) (st en : Int) (n : Nat) (W : World) (op k : Value) (wr : World) : Prop :=
  ∃ (q : Nat) (b : Bool), q ≤ n ∧ k = .int .i64 q ∧ op = .bool b ∧ (b = true ↔ OpK x st en q) ∧ Below W.heap.size W wr
def ROpJ (x : Inp) (st en : Int) (k : Nat) (e : Edg) (us : List Int) (W : World) (op j : Value) (wr : World) : Prop :=
  ∃ (q : Nat) (b : Bool), q ≤ us.length ∧ j = .int .i64 q ∧ op = .bool b ∧ (b = true ↔ OpJ x st en k e us q) ∧ Below W.heap.size W wr
def RNone (W : World) (op k : Value) (wr : World) : Prop := op = .bool false ∧ k = .int .i64 0 ∧ W = wr

set_option maxRecDepth 100000 in
set_option maxHeartbeats 8000000 in
theorem ropen_any (a : Aut) (AV : Option Addr) (cV : Nat) (ev : List SlI) (AC' : Option Addr) (cC' : Nat) (cs : List SlV) (f t en : Int) (w : World) (ha : AutAt w (Lo w.heap.size) a) (hle : AutLe a) (hev : EvAt w AV ev) (hcs : CsAt w AC' cs)
    (h1 : a.edges.length ≤ 40) (h2 : ev.length ≤ 40) (h3 : cs.length ≤ 40) (h4 : ∀ s ∈ ev, s.xs.length ≤ 24) (h5 : ∀ s ∈ cs, s.xs.length ≤ 1000000000000) :
    Calls Try.prog 36 #[.agg (encA a).toArray, .slice AV ev.length cV, .slice AC' cs.length cC', .int .i64 f, .int .i64 t, .int .i64 en] w (OpenPost a ev cs f t en w) := by
  obtain ⟨a', ha'⟩ : ∃ a', a = a' := ⟨_, rfl⟩
  obtain ⟨W0, hW0⟩ : ∃ W0, w.alloc (.cells (encA a).toArray 50) = W0 := ⟨_, rfl⟩
  have g0 := new_at hW0
  have hb0 : Below w.heap.size w W0 := by rw [← hW0]; exact (Below.refl _ _).alloc (Nat.le_refl _) _
  have hp := rfits_any a AV cV ev AC' cC' cs.length f t en W0 (ha.grow hb0) hle (hev.step hb0) (by omega) (by omega) (fun s hs => by have := h4 s hs; omega)
  have HMA := hide (show MAt W0 ⟨a, AV, cV, ev, AC', cC', cs, en⟩ from ⟨ha.grow hb0, hev.step hb0, hcs.step hb0⟩)
  have HMOK := hide (fun hpo => mok_raw (a := a) (AV := AV) (cV := cV) (AS := AC') (cS := cC') (ev := ev) (cs := cs) (f := f) (t := t) (en := en) hpo h1 h2 h3 h4 h5)
  have HB0 := hide hb0
  have hfn := a.fin.length
  rw [ha'] at hp g0 hW0 HMA HMOK ⊢
  obtain ⟨AE, nE, cE, AC, nC, cC, AF, cF, fin, AX, cX, edges⟩ := a
  have hX : encA a' = [.slice AE nE cE, .slice AC nC cC, .slice AF fin.length cF, .slice AX edges.length cX] := by rw [← ha']; rfl
  have HEX := hide hX
  have HFN := hide (show a'.fin.length = fin.length from by rw [← ha'])
  have HAA := hide (show a' = ⟨AE, nE, cE, AC, nC, cC, AF, cF, fin, AX, cX, edges⟩ from ha'.symm)
  have HCL := hide (show cs.length ≤ 140737488355328 ∧ ∀ s ∈ cs, s.xs.length ≤ 1000000000000 from ⟨by omega, h5⟩)
  rw [hX] at hp g0 hW0 ⊢
  have HG0 := hide g0
  have HW0 := hide hW0
  obtain ⟨k0, k1, k2, k3, -⟩ := box4 g0
  clear hX ha' hW0 g0 hb0 ha hle hev hcs h1 h2 h3 h4 h5
  by_cases hpo : PrepOk a' ev cs.length f t en
  · have HPO := hide hpo
    have HP := hide (hp.mono (fun e w2 h => (show e = .returned (.bool true) ∧ Below W0.heap.size W0 w2 from by obtain ⟨b, rfl, hb, hb2⟩ := h; rw [hb.2 hpo]; exact ⟨rfl, hb2⟩)))
    clear hp hpo
    obtain ⟨x, hx⟩ : ∃ x : MIn, (⟨a', AV, cV, ev, AC', cC', cs, en⟩ : MIn) = x := ⟨_, rfl⟩
    obtain ⟨mok, f0, f1, f2⟩ := HMOK.out HPO.out
    rw [hx] at mok
    have HOK := hide mok
    have HM := hide (show MAt W0 x from by rw [← hx]; exact HMA.out)
    have HXE := hide (show encA x.a = [.slice AE nE cE, .slice AC nC cC, .slice AF fin.length cF, .slice AX edges.length cX] ∧ x.AV = AV ∧ x.cV = cV ∧ x.ev = ev ∧ x.AS = AC' ∧ x.cS = cC' ∧ x.cs = cs ∧ x.en = en ∧ x.a.fin.length = fin.length ∧ x.a = a' from by rw [← hx]; exact ⟨HEX.out, rfl, rfl, rfl, rfl, rfl, rfl, rfl, HFN.out, rfl⟩)
    have HIN := hide (show inpOf a' ev cs = x.inp from by rw [← hx]; rfl)
    clear mok hx HMA HMOK
    go_enter Try.func36, Try.ntmps36
    go_upto_region 1 with (fail)
    rw [HW0.out]
    go_upto_region 4 with (go_at_call 60; refine HP.out.mono ?_; rintro e w2 ⟨rfl, hb2⟩; have HB2 := hide hb2; clear hb2)
    clear k0 k1 k2 k3 HP
    obtain ⟨W3, hW3⟩ : ∃ W3, w2.alloc (.cells #[] 3) = W3 := ⟨_, rfl⟩
    have hb3 : Below w2.heap.size w2 W3 := by rw [← hW3]; exact (Below.refl _ _).alloc (Nat.le_refl _) _
    have HOC3 := hide (show OwnInt W3 w2.heap.size (some ⟨w2.heap.size, 0, none⟩) 0 [] from by rw [← hW3]; exact OwnInt.empty w2 _ (Nat.le_refl _))
    have HZ3 := hide (show w2.heap.size < W3.heap.size from by rw [← hW3]; simp)
    have HB3 := hide (bstep HB2.out hb3)
    have HB23 := hide hb3
    rw [hW3]
    have hst := rstarts_any x f t W3 (HM.out.step HB3.out) HOK.out
    rw [HXE.out.1, HXE.out.2.1, HXE.out.2.2.1, HXE.out.2.2.2.1] at hst
    have HSTR := hide hst
    obtain ⟨k0, k1, k2, k3, -⟩ := box4 ((HB3.out.block _ (box_lt HG0.out)).trans HG0.out)
    clear hW3 hb3 hst
    go_upto_region 5 with (go_at_call 61; refine HSTR.out.mono ?_; rintro e w4 ⟨A4, c4, ps, rfl, hown4, hb4, hlist⟩; have HOWN4 := hide hown4; have HB4 := hide hb4; have HLIST := hide hlist; clear hown4 hb4 hlist)
    clear k0 k1 k2 k3 HSTR
    have HPS := hide (starts_few HOK.out HLIST.out)
    have HST := hide (show ∀ q ∈ ps, 0 ≤ q ∧ q ≤ x.en from fun q hq => by obtain ⟨h1, h2, _⟩ := (HLIST.out.2 q).1 hq; rw [HXE.out.2.2.2.2.2.2.2.1]; omega)
    have HB24 := hide (bstep HB23.out HB4.out)
    have HOC4 := hide (own_block (w' := w4) HOC3.out fun g hg => HB4.out.block g (own_ob HOC3.out g hg).2)
    have HAP := hide (show ∀ g, ob (some (⟨w2.heap.size, 0, none⟩ : Addr)) = some g → ob A4 ≠ some g from fun g hg h => by
      rw [ob_some] at hg
      injection hg with hg
      subst hg
      have h1 := (own_ob HOWN4.out _ h).1
      have h2 := HZ3.out
      omega)
    clear HOC3
    go_wp2_with fail
    go_loopw [14, 16] (fun out i wr => ROpenRel x ps A4 c4 w2 out i wr) (fun _ i _ => ps.length - (intOf i).toNat)
    case atStart => exact ⟨0, _, 0, [], Nat.zero_le _, rfl, rfl, HOC4.out, HOWN4.out.lower HB23.out.size, HAP.out, by rw [List.take_zero]; exact OpenK.nil, HB24.out⟩
    case round =>
      obtain ⟨wr1, rfl⟩ : ∃ w2 : World, w2 = wr := ⟨_, rfl⟩
      obtain ⟨k, A, c, xs, hk, rfl, rfl, hown, hop, hap, hrk, hbr⟩ := hrel
      have HOWN := hide hown
      have HOP := hide hop
      have HAP1 := hide hap
      have HRK := hide hrk
      have HBR := hide hbr
      have HBR0 := hide (bstep HB2.out hbr)
      clear hown hop hap hrk hbr HAP HOC4
      have hpl := HPS.out
      have hxl : xs.length ≤ 960 := by have h1 := HRK.out.len; rw [List.length_take] at h1; omega
      by_cases hlt : k < ps.length
      · obtain ⟨bp, op, rfl, hbp, e0⟩ := HOP.out.ats.at_ hlt
        have hst := HST.out _ (List.getElem_mem hlt)
        have HTK := hide (take_succ' hlt)
        have HTL := hide (take_lt HLIST.out.1 hlt)
        generalize ps[k] = st at *
        have HREACH := hide (fun (wx : World) (hx : Below wr1.heap.size wr1 wx) => by
          have hreach := rreach_any x st wx (HM.out.step (bstep HBR0.out hx)) HOK.out hst
          rw [HXE.out.1, HXE.out.2.1, HXE.out.2.2.1, HXE.out.2.2.2.1, HXE.out.2.2.2.2.1, HXE.out.2.2.2.2.2.1, HXE.out.2.2.2.2.2.2.1, HXE.out.2.2.2.2.2.2.2.1] at hreach
          exact hreach)
        have gw := (HBR0.out.block _ (box_lt HG0.out)).trans HG0.out
        have HGW := hide gw
        obtain ⟨x0, x1, x2, x3, -⟩ := box4 gw
        clear gw
        go_upto_region 8 with (fail)
        go_cut [17] (fun r wx => ∃ Bo os, r = .slice (some ⟨Bo, 0, none⟩) x.a.fin.length x.a.fin.length ∧ os.length = x.a.fin.length ∧ RcAt wr1.heap.size wx Bo os ∧ RcP (Rch x.inp st x.en) os ∧ Below wr1.heap.size wr1 wx)
        case first =>
          as_aux_lemma =>
            go_region_law
              (first
                | (go_simp
                   go_at_call 63
                   refine (HREACH.out _ (by first | exact Below.refl _ _ | exact below_drew (Below.refl _ _))).mono ?_
                   rintro e w5 ⟨Bo, os, rfl, hn5, hr5, hp5, hb5⟩
                   have HN5 := hide hn5
                   have HR5 := hide (show RcAt wr1.heap.size w5 Bo os from hr5)
                   have HP5 := hide hp5
                   have HB5 := hide (show Below wr1.heap.size wr1 w5 from ⟨hb5.os, hb5.tape, hb5.output, hb5.size, hb5.block⟩)
                   clear hn5 hr5 hp5 hb5)
                | fail)
            all_goals
              go_wp2_with fail
              go_meet
              exact ⟨Bo, os, rfl, HN5.out, HR5.out, HP5.out, HB5.out⟩
        case rest =>
          obtain ⟨Bo, os, rfl, hn5, hr5, hp5, hb5⟩ := hcut
          have HN5 := hide hn5
          have HR5 := hide hr5
          have HP5 := hide hp5
          have HB5 := hide hb5
          have hRB := HOK.out.e1
          have HRI := hide (show ∀ s t, Rch x.inp st x.en s t → (0 ≤ s ∧ s < x.a.fin.length) ∧ 0 ≤ t ∧ t ≤ 1099511627776 from fun s t h => ⟨(rch_in HOK.out hst h).1, (rch_in HOK.out hst h).2.1, by have := (rch_in HOK.out hst h).2.2; omega⟩)
          have hfirst := rfirst_any x.a _ Bo os (Rch x.inp st x.en) wc ((HM.out.step (bstep HBR0.out HB5.out)).aut) HOK.out.fin hn5 hr5 hp5 HRI.out
          rw [HXE.out.1, HXE.out.2.2.2.2.2.2.2.2.1] at hfirst
          have HFIRST := hide hfirst
          clear x0 x1 x2 x3
          obtain ⟨x0, x1, x2, x3, -⟩ := box4 ((hb5.block _ (box_lt HGW.out)).trans HGW.out)
          have e1 := (hb5.cell (p := ⟨bp, op + k, none⟩) hbp).trans e0
          have hbp5 : bp < wc.heap.size := Nat.lt_of_lt_of_le hbp hb5.size
          clear hfirst hn5 hr5 hp5 hb5 HREACH e0
          rw [HXE.out.2.2.2.2.2.2.2.2.1]
          go_upto_region 10 with (go_at_call 62; refine HFIRST.out.mono ?_; rintro e w6 ⟨v, okv, rfl, hl6, hb6⟩; have HL6 := hide hl6; have HB6 := hide hb6; clear hl6 hb6)
          have HB16 := hide (bstep HB5.out HB6.out)
          have HR6 := hide (HR5.out.below HB6.out)
          have e2 := (HB6.out.cell (p := ⟨bp, op + k, none⟩) hbp5).trans e1
          have hbp6 : bp < w6.heap.size := Nat.lt_of_lt_of_le hbp5 HB6.out.size
          clear x0 x1 x2 x3 e1 HFIRST HR5
          have HSKIP := hide (fun (wx : World) (hx : Below w6.heap.size w6 wx) (hno : ¬ OpenS x.inp st x.en) => (show ROpenRel x ps (some ⟨bp, op, none⟩) c4 w2 (.slice A xs.length c) (.int .i64 ((k : Int) + 1)) wx from
            ⟨k + 1, A, c, xs, hlt, by go_num, rfl, own_block HOWN.out fun g hg => (bstep HB16.out hx).block g (own_ob HOWN.out g hg).2, own_block HOP.out fun g hg => (bstep HB16.out hx).block g (own_ob HOP.out g hg).2, HAP1.out, by rw [HTK.out]; exact HRK.out.skip hno, bstep (bstep HBR.out HB16.out) hx⟩))
          cases okv with
          | true =>
            as_aux_lemma =>
              have HNO := hide (show ¬ OpenS x.inp st x.en from fun h => h.1 ⟨v, (HL6.out.1 rfl).1⟩)
              obtain ⟨x0, x1, x2, x3, -⟩ := box4 (((bstep HB5.out HB6.out).block _ (box_lt HGW.out)).trans HGW.out)
              go_wp2_with fail
              go_loopw [20, 21] (fun op k wr => RNone w6 op k wr) (fun _ _ _ => 0)
              case atStart => exact ⟨rfl, rfl, rfl⟩
              case round =>
                obtain ⟨rfl, rfl, rfl⟩ := hrel
                go_wp2_with fail
                all_goals exact ⟨HSKIP.out _ (Below.refl _ _) HNO.out, by simp [intOf]; omega⟩
          | false =>
            have HALL := hide (OpK.all (x := x.inp) (st := st) (en := x.en) fun t => HL6.out.2 rfl t)
            go_wp2_with fail
            go_loopw [20, 21] (fun op k wr => ROpK x.inp st x.en edges.length w6 op k wr) (fun _ k _ => edges.length - (intOf k).toNat)
            case atStart => exact ⟨0, false, Nat.zero_le _, rfl, rfl, ⟨(fun e => by cases e), fun h => absurd h OpK.zero⟩, Below.refl _ _⟩
            case round =>
              as_aux_lemma =>
                obtain ⟨wr2, rfl⟩ : ∃ w2 : World, w2 = wr := ⟨_, rfl⟩
                obtain ⟨q, b, hq, rfl, rfl, hbk, hbr2⟩ := hrel
                have HBK := hide hbk
                have HBR2 := hide hbr2
                have HBRA := hide (bstep (bstep HBR0.out HB16.out) hbr2)
                obtain ⟨x0, x1, x2, x3, -⟩ := box4 (((bstep HB16.out hbr2).block _ (box_lt HGW.out)).trans HGW.out)
                have e3 := (hbr2.cell (p := ⟨bp, op + k, none⟩) hbp6).trans e2
                clear hbk hbr2
                have HXA := hide (HXE.out.2.2.2.2.2.2.2.2.2.trans HAA.out)
                have hed := HOK.out.few
                rw [HXA.out] at hed
                dsimp only at hed
                by_cases hlq : q < edges.length
                · obtain ⟨be, oe, bv, ov, j, s, f', t', wh, lo, hi', ea⟩ := edge_at HOK.out (HM.out.step HBRA.out) (k := q) (by rw [HXA.out]; exact hlq)
                  have ax := ea.ax
                  rw [HXA.out] at ax
                  dsimp only at ax
                  subst ax
                  obtain ⟨-, -, get, e0', e1', e2', e3', e4', e5', -, -, -, -, -, -, -, eok, hbe, -⟩ := ea
                  obtain ⟨fn, hfn'⟩ := Int.eq_ofNat_of_zero_le eok.f0
                  dsimp only at hfn'
                  subst hfn'
                  have hfl : fn < fin.length := by
                    have h1 := eok.ft
                    have h2 := eok.tn
                    rw [HXE.out.2.2.2.2.2.2.2.2.1] at h2
                    dsimp only at h1 h2
                    omega
                  have hwhc : wh = -1 ∨ ∃ k : Nat, k < cs.length ∧ wh = (k : Int) := by
                    have h1 := eok.w0
                    have h2 := eok.wn
                    rw [HXE.out.2.2.2.2.2.2.1] at h2
                    dsimp only at h1 h2
                    rcases Int.lt_or_le wh 0 with h3 | h3
                    · exact .inl (by omega)
                    · obtain ⟨k, hk⟩ := Int.eq_ofNat_of_zero_le h3
                      exact .inr ⟨k, by omega, hk⟩
                  have hh1 : hi' ≤ 1099511627776 ∧ 0 ≤ hi' := ⟨eok.h1, by have h1 := eok.l0; have h2 := eok.lh; dsimp only at h1 h2; omega⟩
                  have HWH := hide hwhc
                  have hos : os[fn]? = some (os[fn]'(by rw [HN5.out, HXE.out.2.2.2.2.2.2.2.2.1]; exact hfl)) := List.getElem?_eq_getElem _
                  generalize (os[fn]'(by rw [HN5.out, HXE.out.2.2.2.2.2.2.2.2.1]; exact hfl)) = o at hos
                  obtain ⟨oA, oc, us⟩ := o
                  have HOS := hide hos
                  have HUI := hide (show ∀ t, t ∈ us ↔ Rch x.inp st x.en (fn : Int) t from HP5.out.mem fn _ hos)
                  have HUL := hide (show us.length ≤ 1099511627777 from HP5.out.len (fun s t h => (HRI.out s t h).2) hos)
                  obtain ⟨W4, hW4⟩ : ∃ W4 : World, wr2.alloc (.cells #[.int .i64 (fn : Int), .int .i64 t', .int .i64 (j : Int), .int .i64 wh, .int .i64 lo, .int .i64 hi'] 81) = W4 := ⟨_, rfl⟩
                  have g4 := new_at hW4
                  have hb4 : Below wr2.heap.size wr2 W4 := by rw [← hW4]; exact (Below.refl _ _).alloc (Nat.le_refl _) _
                  have HG4 := hide g4
                  have HB4W := hide hb4
                  have HW4 := hide hW4
                  have HR4 := hide (HR6.out.below (bstep HBR2.out hb4))
                  have HCS := hide (show CsAt W4 AC' cs from by have h1 := HM.out.cs.step (bstep HBRA.out hb4); rw [HXE.out.2.2.2.2.1, HXE.out.2.2.2.2.2.2.1] at h1; exact h1)
                  obtain ⟨e, he⟩ : ∃ e : Edg, (⟨(fn : Int), t', (j : Int), wh, lo, hi'⟩ : Edg) = e := ⟨_, rfl⟩
                  have HEV := hide (show e.from_ = (fn : Int) ∧ e.while_ = wh ∧ e.high = hi' from by rw [← he]; exact ⟨rfl, rfl, rfl⟩)
                  have HGE := hide (show x.inp.edges[q]? = some e from by rw [← he]; exact get)
                  obtain ⟨f0', f1', f2', f3', f4', f5'⟩ := box6 g4
                  have hfz := box_lt g4
                  clear get eok hos hW4 g4 hb4 he hwhc
                  go_upto_region 15 with (fail)
                  rw [HW4.out]
                  clear e0' e1' e2' e3' e4' e5' f0' f1' f2' f3' f4' f5' x0 x1 x2 x3 e2 e3
                  go_wp2_with fail
                  go_loopw [20, 23] (fun op j wr => ROpJ x.inp st x.en q e us W4 op j wr) (fun _ j _ => us.length - (intOf j).toNat)
                  case atStart => exact ⟨0, b, Nat.zero_le _, rfl, rfl, HBK.out.trans OpJ.zero, Below.refl _ _⟩
                  case round =>
                    as_aux_lemma =>
                      obtain ⟨wr3, rfl⟩ : ∃ w2 : World, w2 = wr := ⟨_, rfl⟩
                      obtain ⟨p, b3, hp, rfl, rfl, hbj, hbr3⟩ := hrel
                      have HBJ := hide hbj
                      have HBR3 := hide hbr3
                      obtain ⟨f0', f1', f2', f3', f4', f5'⟩ := box6 ((hbr3.block _ (box_lt HG4.out)).trans HG4.out)
                      have c0 := (HR4.out.below hbr3).cell HOS.out
                      have c1 := (HR4.out.below hbr3).ints HOS.out
                      dsimp only at c0 c1
                      have hul := HUL.out
                      clear hbj hbr3
                      by_cases hlp : p < us.length
                      · obtain ⟨bu, ou, rfl, hbu, e10⟩ := c1.at_ hlp
                        have hu : us[p]? = some us[p] := List.getElem?_eq_getElem hlp
                        have hub := (HRI.out _ _ ((HUI.out _).1 (List.getElem_mem hlp))).2
                        have HU := hide hu
                        clear hu
                        generalize us[p] = u at *
                        cases b3 with
                        | true =>
                          have HN := hide ((OpJ.step (x := x.inp) (st := st) (en := x.en) (k := q) (e := e) HU.out).2 (.inl (HBJ.out.1 rfl)))
                          go_wp2_with fail
                          exact ⟨⟨p + 1, true, hlp, by go_num, rfl, ⟨fun _ => HN.out, fun _ => rfl⟩, HBR3.out⟩, by simp [intOf]; omega⟩
                        | false =>
                          have HOG0 := hide (show OpGo x.inp x.en e u ↔ (en - u < hi' ∧ HoldW (cs.map SlV.xs) wh u (en + 1)) from by
                            unfold OpGo
                            rw [HEV.out.2.1, HEV.out.2.2, HXE.out.2.2.2.2.2.2.2.1, show x.inp.cs = cs.map SlV.xs from by unfold MIn.inp; rw [HXE.out.2.2.2.2.2.2.1]])
                          have HOG := hide (show OpJ x.inp st x.en q e us (p + 1) ↔ (en - u < hi' ∧ HoldW (cs.map SlV.xs) wh u (en + 1)) from
                            (OpJ.step HU.out).trans ⟨fun h => h.elim (fun h => by have := HBJ.out.2 h; cases this) HOG0.out.1, fun h => .inr (HOG0.out.2 h)⟩)
                          have hen1 := HOK.out.e1
                          rw [HXE.out.2.2.2.2.2.2.2.1] at hen1
                          have hwr : IntKind.i64.wrap (en - u) = en - u := by rw [IntKind.wrap_i64]; omega
                          by_cases hg : en - u < hi'
                          · have T1 : decide (en - u < hi') = true := decide_eq_true hg
                            have HHLD := hide (rholds_any AC' cC' cs wh u en wr3 HWH.out (HCS.out.step HBR3.out) HCL.out.1 HCL.out.2 (by omega) (by omega))
                            have HG := hide hg
                            clear hg
                            go_wp2_with (go_at_call 65; refine HHLD.out.mono ?_; rintro e7 w7 ⟨b6, rfl, hb6i, hb6⟩; have HBI := hide hb6i; have HB7 := hide (bstep HBR3.out hb6); clear hb6i hb6)
                            exact ⟨⟨p + 1, b6, hlp, by go_num, rfl, HBI.out.trans ⟨fun h => HOG.out.2 ⟨HG.out, h⟩, fun h => (HOG.out.1 h).2⟩, HB7.out⟩, by simp [intOf]; omega⟩
                          · have T1 : decide (en - u < hi') = false := decide_eq_false hg
                            have HN := hide (show ¬ OpJ x.inp st x.en q e us (p + 1) from fun h => hg (HOG.out.1 h).1)
                            clear hg
                            go_wp2_with fail
                            exact ⟨⟨p + 1, false, hlp, by go_num, rfl, ⟨(fun e => by cases e), fun h => absurd h HN.out⟩, HBR3.out⟩, by simp [intOf]; omega⟩
                      · have hpe : p = us.length := by omega
                        have HN := hide (show b3 = true ↔ OpK x.inp st x.en (q + 1) from by
                          have h1 := HBJ.out
                          rw [hpe] at h1
                          exact h1.trans (OpJ.done HGE.out (by rw [HEV.out.1]; exact HUI.out)))
                        clear hpe
                        go_wp2_with fail
                        exact ⟨⟨q + 1, b3, hlq, by go_num, rfl, HN.out, bstep (bstep HBR2.out HB4W.out) HBR3.out⟩, by simp [intOf]; omega⟩
                · have hqe : q = edges.length := by omega
                  have HBO := hide (show b = true ↔ OpenS x.inp st x.en from by
                    have h1 := HBK.out
                    rw [hqe] at h1
                    refine h1.trans ?_
                    have h2 := HALL.out
                    rw [show x.inp.edges.length = edges.length from by unfold MIn.inp; rw [HXA.out]] at h2
                    exact h2)
                  clear hqe
                  cases b with
                  | false =>
                    have HNO := hide (show ¬ OpenS x.inp st x.en from fun h => by have := HBO.out.2 h; cases this)
                    go_wp2_with fail
                    exact ⟨HSKIP.out _ HBR2.out HNO.out, by simp [intOf]; omega⟩
                  | true =>
                    as_aux_lemma =>
                      obtain ⟨i0, hi0, hz0, hz1, hz2⟩ := info_parts infoInt
                      have HI := hide hi0
                      have HZ0 := hide hz0
                      have HZ1 := hide hz1
                      have HZ2 := hide hz2
                      have HBX := hide (bstep HB16.out HBR2.out)
                      have HBW2 := hide (bstep HBR.out HBX.out)
                      have HOC := hide (own_block (w' := wr2) HOWN.out fun g hg => HBX.out.block g (own_ob HOWN.out g hg).2)
                      have HOPW := hide (own_block (w' := wr2) HOP.out fun g hg => HBX.out.block g (own_ob HOP.out g hg).2)
                      clear hi0 hz0 hz1 hz2
                      go_wp2_with (at_builtin; (refine wpList_append_own_at _ rfl _ _ 36 rfl w2.heap.size 3 i0 _ 1 8 Try.underlying36 HI.out HZ0.out HZ1.out HZ2.out rfl (by decide) _ xs.length (xs.map (Value.int .i64)) rfl (HOC.out.alloc _) ⟨wr2.heap.size, 0, none⟩ 1 1 [.int .i64 st] rfl rfl ?c1 ?c2 ?c3 ?c4 ?c5 ?_))
                      try (case c1 => exact fun j u hu => by rw [cells_push (cs := #[.int .i64 st]) (t := 3) rfl]; simpa using hu)
                      case c2 => simp [Value.oneCell']
                      case c3 => unfold maxLen; omega
                      case c4 => omega
                      case c5 => have := HBW2.out.size; simp; omega
                      intro v' V3 hown3 hg4 _ hat4
                      obtain ⟨g4, cp4, rfl⟩ := ownsRow_succ hown3
                      have HOP3 := hide (show OwnInt V3 w2.heap.size (some ⟨bp, op, none⟩) c4 ps from own_block HOPW.out fun g hg => (hg4.block g (by have := (own_ob HOPW.out g hg).2; simp; omega) (by rw [ob_eq]; exact fun e => HAP1.out g e.symm hg)).trans (Below.heap_alloc wr2 _ g (own_ob HOPW.out g hg).2))
                      have HAP3 := hide (show ∀ g, ob (some (⟨g4, 0, none⟩ : Addr)) = some g → ob (some (⟨bp, op, none⟩ : Addr)) ≠ some g from fun g hg h => by
                        rw [ob_eq, ob_eq] at hat4
                        rcases hat4 with e | e
                        · rw [hg] at e
                          exact HAP1.out g e.symm h
                        · rw [hg] at e
                          have h1 := (own_ob HOPW.out g h).2
                          simp at e
                          omega)
                      have HN := hide (show ROpenRel x ps (some ⟨bp, op, none⟩) c4 w2 (.slice (some ⟨g4, 0, none⟩) (xs.length + 1) cp4) (.int .i64 ((k : Int) + 1)) V3 from ⟨k + 1, some ⟨g4, 0, none⟩, cp4, xs ++ [st], hlt, by go_num, by simp, by
                        show V3.ownsRow _ _ _ _ _ _
                        rw [List.map_append, List.length_append]; exact hown3, HOP3.out, HAP3.out, by rw [HTK.out]; exact HRK.out.add (HBO.out.1 (by first | rfl | trivial)) HTL.out, (HBW2.out.alloc HBW2.out.size _).grown hg4 (by have := HBW2.out.size; simp; omega) (fun g hg => by rw [ob_eq] at hg; exact (own_ob HOC.out g hg).1)⟩)
                      clear hown3 hg4 hat4
                      go_wp2_with fail
                      exact ⟨HN.out, by simp [intOf]; omega⟩
      · have hke : k = ps.length := by omega
        have T1 : decide ((1024 : Int) < (xs.length : Int)) = false := decide_eq_false (by omega)
        have HE := hide (show OpenPost a' ev cs f t en w (.returned (.tuple #[.slice A xs.length c, .int .i64 0])) wr1 from ⟨bstep HB0.out HBR0.out, .inr ⟨HPO.out, A, c, xs, rfl, Joins.ownsRow_le HOWN.out (Nat.le_trans HB0.out.size HB2.out.size), hxl, by
          have h1 := HRK.out
          rw [hke, List.take_length] at h1
          have h2 := h1.fin HLIST.out
          rw [HXE.out.2.2.2.2.2.2.2.1, ← HIN.out] at h2
          exact h2⟩⟩)
        clear hke
        go_wp2_with fail
        exact bodyPost_ret (v := .tuple #[.slice A xs.length c, .int .i64 0]) (by simp [results, Try.results36, go_sem]) rfl HE.out
  · have HPN := hide hpo
    have HP := hide (hp.mono (fun e w2 h => (show e = .returned (.bool false) ∧ Below W0.heap.size W0 w2 from by
      obtain ⟨b, rfl, hb, hb2⟩ := h
      cases b with
      | false => exact ⟨rfl, hb2⟩
      | true => exact absurd (hb.1 rfl) hpo)))
    clear hp hpo
    go_enter Try.func36, Try.ntmps36
    go_upto_region 1 with (fail)
    rw [HW0.out]
    go_wp2_with (go_at_call 60; refine HP.out.mono ?_; rintro e w2 ⟨rfl, hb2⟩; have HB2 := hide hb2; clear hb2)
    have HE := hide (show OpenPost a' ev cs f t en w (.returned (.tuple #[.slice none 0 0, .int .i64 1])) w2 from ⟨bstep HB0.out HB2.out, .inl ⟨HPN.out, rfl⟩⟩)
    exact bodyPost_ret (v := .tuple #[.slice none 0 0, .int .i64 1]) (by simp [results, Try.results36, go_sem]) rfl HE.out

end Go.Proofs.Ytkbiefklilelmaa
