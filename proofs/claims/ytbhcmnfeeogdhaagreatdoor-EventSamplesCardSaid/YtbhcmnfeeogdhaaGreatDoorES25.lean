/-
  Several texts in one: LawSamples, EChg, EFind, AgrE, ERead. Each says at its head what it holds.
-/
import Derived.Test.YtbhcmnfeeogdhaaGreatDoorES24
import Derived.Test.YtbhcmnfeeogdhaaGreatDoorES23
import Derived.Test.YtbhcmnfeeogdhaaGreatDoorES5
import Derived.Deep.RegionLaw
import Derived.Deep.RegionHeld3
import Derived.Test.YtbhcmnfeeogdhaaGreatDoorES21
import Derived.Test.YtbhcmnfeeogdhaaGreatDoorES22

/-
  wavestorelaw53.EventSamples, walked; the example is a premise here (EAwake proves it).
-/
namespace Go.Proofs.YtbhcmnfeeogdhaaGreatDoor
open Go.RowKit

theorem sample_new (v : Wv) (n : Nd) (zs : List Int) (TA : Option Addr) (tc : Nat) (ts : List Int) (M : Nat) (w w1 : World) (hb : Below w.heap.size w w1) (hM : w.heap.size ≤ M) (h : SourceAt w1 M v (-1) 0) (hv : SmallOk v) (hf : FewOk 60 n) (ht : TreesAt w (Lo w.heap.size) n.KA n.kids) (hok : okF n) (hz : SigsOf n zs)
    (hI : IntsAt w w.heap.size TA ts) (hl : ts.length ≤ 40) :
    Calls Tryz.prog 17 #[srcV M, .agg (cNd n).toArray, .slice TA ts.length tc] w1 fun e w2 => (∃ p q, e = .returned (.tuple #[p, q]) ∧ SmpR v n zs ts p q w2) ∧ Below w.heap.size w w2 := by
  have fin : ∀ {c : Int} {w2 : World}, SrcTo w1 M v (-1) c w2 → Below w.heap.size w w2 := fun hs => hb.trans (hs.2.below hb.size fun k e => by injection e with e; omega)
  refine (sample_any v 0 M n zs TA tc ts w1 h hv (tree_un ht hb hM) hok hf hz (by decide) (by decide) (fun W hw => ?_) hl).mono ?_
  · have hb2 : Below w.heap.size w W := hb.trans (hw.below hb.size fun k e => by injection e with e; omega)
    exact (hI.below hb2).more hb2.size
  · rintro e w2 ⟨h1, c', h2⟩
    exact ⟨h1, fin h2⟩
theorem sample_ref (v : Wv) (n : Nd) (zs : List Int) (TA : Option Addr) (tc : Nat) (ts : List Int) (w : World) (hv : SmallOk v) (hS : SigsAt w (Lo w.heap.size) v.A v.sigs) (ht : TreesAt w (Lo w.heap.size) n.KA n.kids) (hok : okF n) (hf : FewOk 60 n) (hty : RtC n) (hz : SigsOf n zs)
    (hI : IntsAt w w.heap.size TA ts) (hl : ts.length ≤ 40) :
    Calls Tryz.prog 18 #[.agg (cWv v).toArray, .agg (cNd n).toArray, .slice TA ts.length tc] w (RsPost v n zs ts w) :=
  rsample_any v n zs TA tc ts w hv hS ht hok (by have := sig_nodes n; have := hf.nodes; omega) hf hty hz hI hl
def SmpCut (v : Wv) (n : Nd) (zs ts : List Int) (w w' : World) (p q : Value) : Prop := SmpR v n zs ts p q w' ∧ Below w.heap.size w w'

set_option maxRecDepth 100000 in
set_option maxHeartbeats 8000000 in
theorem samples_all (haw : Awake53) (v : Wv) (gs : List (Int × Int)) (n : Nd) (TA : Option Addr) (tc : Nat) (ts : List Int) (w : World) (hS : SigsAt w (Lo w.heap.size) v.A v.sigs) (hG : Row w (Lo w.heap.size) 2 cGp v.G gs) (hgn : v.gn = gs.length) (hsz : ∀ s ∈ v.sigs, ∀ c ∈ s.chs, c.val.size ≤ 9223372036854775807)
    (ht : TreesAt w (Lo w.heap.size) n.KA n.kids) (hok : okF n) (hty : RtC n) (hI : IntsAt w w.heap.size TA ts) (hlb : ts.length ≤ 9223372036854775807) :
    Calls Tryz.prog 6 #[.agg (cWv v).toArray, .agg (cNd n).toArray, .slice TA ts.length tc] w fun e w' => e = .returned (.bool true) ∧ Below w.heap.size w w' := by
  obtain ⟨zs, hz⟩ := sigs_ex hok
  have HAW := hide haw
  have HFW := hide (fun (W : World) (hb : Below w.heap.size w W) => few53_any v gs n W (hS.grow hb) (hG.grow hb) hgn hsz (ht.grow hb))
  have HNEW := hide (fun (W : World) (hb : Below w.heap.size w W) => new_any v W (hS.grow hb))
  have HVN := hide (fun (W W1 : World) (hb : Below w.heap.size w W) (hb1 : Below W.heap.size W W1) (M : Nat) (hM : W.heap.size ≤ M) (h : SourceAt W1 M v (-1) 0) (hv : FwOk v n) (hl : ts.length ≤ 40) => sample_new v n zs TA tc ts M W W1 hb1 hM h hv.1 (few_mono (by decide) n hv.2.2) (ht.grow hb) hok hz (hI.step hb) hl)
  have HVR := hide (fun (W : World) (hb : Below w.heap.size w W) (hv : FwOk v n) (hl : ts.length ≤ 40) => sample_ref v n zs TA tc ts W hv.1 (hS.grow hb) (ht.grow hb) hok (few_mono (by decide) n hv.2.2) hty hz (hI.step hb) hl)
  unfold srcV at HVN
  clear haw hS hG hgn hsz ht hok hty hI hz
  obtain ⟨A, cA, sigs, G, gn, cG, fin⟩ := v
  obtain ⟨kind, at_, name, value, a, b, c, d, KA, kc, kids⟩ := n
  unfold cWv cNd at *
  dsimp only at *
  generalize hvv : Wv.mk A cA sigs G gn cG fin = v at *
  generalize hnn : Nd.mk kind at_ name value a b c d KA kc kids = n at *
  clear hvv hnn
  obtain ⟨W0, hW0⟩ : ∃ W0, (w.alloc (.cells #[.slice A sigs.length cA, .slice G gn cG, .int .i64 fin] 27)).alloc (.cells #[.int .i64 kind, .int .i64 at_, .string name, .string value, .int .i64 a, .int .i64 b, .int .i64 c, .int .i64 d, .slice KA kids.length kc] 30) = W0 := ⟨_, rfl⟩
  obtain ⟨p0, p1, hb0⟩ := chain2 _ _ _ hW0
  have HB0 := hide hb0
  have HG0 := hide p0
  have HG1 := hide p1
  have HH := hide (wn_held p0 p1)
  obtain ⟨c0, c1, c2, y0, y1, y2, y3, y4, y5, y6, y7, y8, -⟩ := HH.out W0 (Below.refl _ _)
  have HW0 := hide hW0
  clear hW0 p0 p1 hb0
  go_enter Tryz.func6, Tryz.ntmps6
  go_upto_region 1 with (fail)
  rw [HW0.out]
  go_wp2_with fail
  refine (HFW.out W0 HB0.out).mono ?_
  rintro e w1 ⟨b1, rfl, hs1, hb1⟩
  have HS1 := hide hs1
  have HB1 := hide hb1
  have HBB1 := hide (bstep HB0.out hb1)
  clear hs1 hb1 c0 c1 c2 y0 y1 y2 y3 y4 y5 y6 y7 y8
  cases b1 with
  | false =>
    go_wp2_with fail
    refine (HAW.out _).mono ?_
    rintro e w2 ⟨rfl, hb2⟩
    have HB2 := hide (bstep HBB1.out hb2)
    clear hb2
    go_wp2_with fail
    go_ret
    exact ⟨rfl, HB2.out⟩
  | true =>
    by_cases hlen : 40 < ts.length
    case pos =>
      have T1 : decide ((40 : Int) < (ts.length : Int)) = true := decide_eq_true (by omega)
      clear hlen
      go_wp2_with fail
      refine (HAW.out _).mono ?_
      rintro e w2 ⟨rfl, hb2⟩
      have HB2 := hide (bstep HBB1.out hb2)
      clear hb2
      go_wp2_with fail
      go_ret
      exact ⟨rfl, HB2.out⟩
    have T1 : decide ((40 : Int) < (ts.length : Int)) = false := decide_eq_false (by omega)
    have HLE := hide (show ts.length ≤ 40 by omega)
    have HSM := hide (HS1.out rfl)
    clear HS1 hlen
    have HH1 := hide (wn_held ((HB1.out.block _ (box_lt HG0.out)).trans HG0.out) ((HB1.out.block _ (box_lt HG1.out)).trans HG1.out))
    go_upto_region 3 with (fail)
    go_cut [7, 8] (fun p q wx => SmpCut v n zs ts w1 wx p q)
    case first =>
      have r0 : Below w1.heap.size w1 w1.drew := below_drew (Below.refl _ _)
      have k0 := HH1.out w1.drew r0
      go_region_held3 (fun wx => wx.cell? ⟨w.heap.size, 0, none⟩ = some (.slice A sigs.length cA) ∧ wx.cell? ⟨w.heap.size, 1, none⟩ = some (.slice G gn cG) ∧ wx.cell? ⟨w.heap.size, 2, none⟩ = some (.int .i64 fin) ∧ wx.cell? ⟨w.heap.size + 1, 0, none⟩ = some (.int .i64 kind) ∧ wx.cell? ⟨w.heap.size + 1, 1, none⟩ = some (.int .i64 at_) ∧ wx.cell? ⟨w.heap.size + 1, 2, none⟩ = some (.string name) ∧ wx.cell? ⟨w.heap.size + 1, 3, none⟩ = some (.string value) ∧ wx.cell? ⟨w.heap.size + 1, 4, none⟩ = some (.int .i64 a) ∧ wx.cell? ⟨w.heap.size + 1, 5, none⟩ = some (.int .i64 b) ∧ wx.cell? ⟨w.heap.size + 1, 6, none⟩ = some (.int .i64 c) ∧ wx.cell? ⟨w.heap.size + 1, 7, none⟩ = some (.int .i64 d) ∧ wx.cell? ⟨w.heap.size + 1, 8, none⟩ = some (.slice KA kids.length kc) ∧ Below w1.heap.size w1 wx)
        (first | (with_reducible assumption) | exact k0)
        (first
          | (go_at_call 13; refine (HNEW.out w1.drew (bstep HBB1.out r0)).mono ?_; rintro e wa ⟨M, rfl, hM, hsrc, hb2⟩; have hU := bstep HBB1.out r0; have r2 := bstep r0 hb2; have k2 := HH1.out wa r2)
          | (go_at_call 17; refine (HVN.out _ wa hU hb2 M hM hsrc HSM.out HLE.out).mono ?_; rintro e wb ⟨⟨vp, vq, rfl, hvr⟩, hb3⟩; have r3 : Below w1.heap.size w1 wb := bstep r0 hb3; have k3 := HH1.out wb r3))
      all_goals (go_wp2_with fail; go_meet; exact ⟨hvr, r3⟩)
    case rest =>
      obtain ⟨hvr, hb2⟩ := hcut
      obtain ⟨w2, rfl⟩ : ∃ x : World, x = wc := ⟨_, rfl⟩
      have HB2 := hide (bstep HB1.out hb2)
      have HBB2 := hide (bstep HBB1.out hb2)
      have HVG := hide (fun (W : World) (hb : Below w2.heap.size w2 W) => hvr.grow hb)
      obtain ⟨er, A1, ca1, l, rfl, rfl, rfl, hr, hl0, hl1⟩ := hvr
      have HL0 := hide hl0
      have HL1 := hide hl1
      have HR1 := hide hr
      have HLL := hide (show l.length ≤ 40 by
        by_cases h : smpT v n zs ts = 0
        · rw [hl1 h, List.length_map]; exact HLE.out
        · rw [hl0 h]; exact Nat.zero_le _)
      clear hl0 hl1 hr hb2 HVG
      obtain ⟨c0, c1, c2, y0, y1, y2, y3, y4, y5, y6, y7, y8, -⟩ := HH.out w2 HB2.out
      go_wp2_with fail
      refine (HVR.out w2 HBB2.out HSM.out HLE.out).mono ?_
      rintro e w3 ⟨⟨p3, q3, rfl, er3, A3, c3, l3, rfl, rfl, rfl, hr3, k0, k1⟩, hb3⟩
      obtain rfl : l = l3 := by
        by_cases h : smpT v n zs ts = 0
        · rw [HL1.out h, k1 h]
        · rw [HL0.out h, k0 h]
      have HBB3 := hide (bstep HBB2.out hb3)
      have HSA := hide (texts_same _ _ A1 A3 ca1 c3 l w3 (HR1.out.stay (stay_below hb3 fun _ h => h)) hr3 (by have := HLL.out; omega))
      generalize smpT v n zs ts = er at *
      clear hr3 hb3 k0 k1 c0 c1 c2 y0 y1 y2 y3 y4 y5 y6 y7 y8
      go_wp2_with fail
      refine HSA.out.mono ?_
      rintro e w4 ⟨rfl, hb4⟩
      have HBB4 := hide (bstep HBB3.out hb4)
      clear hb4
      go_wp2_with fail
      refine (HAW.out _).mono ?_
      rintro e w5 ⟨rfl, hb5⟩
      have HB5 := hide (bstep HBB4.out hb5)
      clear hb5
      go_wp2_with fail
      go_ret
      exact ⟨rfl, HB5.out⟩

end Go.Proofs.YtbhcmnfeeogdhaaGreatDoor

/-
  event.changes: the times at which a value changes as a kind of event says.
-/
namespace Go.Proofs.YtbhcmnfeeogdhaaGreatDoor
open Go.RowKit

theorem infoIn : (Tryz.prog.info? 3).map (fun i => (i.zero, i.size, i.bytes)) = some (some (.int .i64 0), 1, 8) := by kernel_rfl
def chg1 (kind f : Int) (x y : Spn) : List Int := if f ≤ y.f ∧ isEv kind x.v y.v = true then [y.f] else []
/-- the events among the first j changes of spans -/
def chgT (kind f : Int) (l : List Spn) : Nat → List Int
  | 0 => []
  | j + 1 => chgT kind f l j ++ (match l[j]?, l[j + 1]? with | some x, some y => chg1 kind f x y | _, _ => [])
theorem chgT_len (kind f : Int) (l : List Spn) : ∀ j, (chgT kind f l j).length ≤ j
  | 0 => Nat.le_refl _
  | j + 1 => by
    have := chgT_len kind f l j
    rw [chgT, List.length_append]
    split
    · unfold chg1; split <;> simp <;> omega
    · simp; omega
def EcRel (kind f : Int) (l : List Spn) (base : Nat) (w : World) (o i : Value) (wr : World) : Prop :=
  ∃ (j : Nat) (A : Option Addr) (c : Nat), (j = 0 ∨ j + 1 ≤ l.length) ∧ i = .int .i64 ((j : Int) + 1) ∧ o = .slice A (chgT kind f l j).length c ∧ OwnInt wr base A c (chgT kind f l j) ∧ Below w.heap.size w wr
def EcPost (v : Wv) (n : Nd) (kind f t : Int) (M : Nat) (w : World) (e : Ending) (w' : World) : Prop :=
  ∃ (l : List Spn) (A : Option Addr) (c : Nat), Spans (fun u => valF (envW v u) n) (max (f - 1) 0) t l ∧ l.length ≤ 4001 ∧ e = .returned (.tuple #[.slice A (chgT kind f l (l.length - 1)).length c, .int .i64 0]) ∧ OwnInt w' w.heap.size A c (chgT kind f l (l.length - 1)) ∧ ∃ c', SrcTo w M v (-1) c' w'

set_option maxRecDepth 100000 in
set_option maxHeartbeats 80000000 in
theorem chg_any (v : Wv) (c : Int) (M : Nat) (n : Nd) (kind f t : Int) (w : World) (h : SourceAt w M v (-1) c) (hv : SmallOk v) (ht : TreesAt w (Un M w.heap.size) n.KA n.kids) (hok : okF n) (hf60 : FewOk 60 n)
    (h0 : 0 ≤ c) (h1 : c ≤ 100000) (hp : ∃ p, typeF n = some p) (hfit : ∀ x ∈ sigF n, sigE v n x = 0) (hk : I64 kind) (hf : 0 ≤ f) (hft : f ≤ t) (htf : t ≤ v.fin) :
    Calls Tryz.prog 72 #[srcV M, .int .i64 kind, .agg (cNd n).toArray, .int .i64 f, .int .i64 t] w (EcPost v n kind f t M w) := by
  obtain ⟨i0, hi0, hz0, hz1, hz2⟩ := info_parts infoIn
  have hM := h.lt
  have hfin := hv.fin.2
  have hfr : 0 ≤ max (f - 1) 0 ∧ max (f - 1) 0 ≤ t := by omega
  have HVAL := hide (fun (W : World) (hs : SrcTo w M v (-1) c W) => value_any2 v (-1) c M n (max (f - 1) 0) t W hs.1 hv (tree_src ht hs) hok hf60 (few_short n hf60) h0 h1 (.inl (by decide)) (fun h => by omega))
  have HIR := hide (show inR v (max (f - 1) 0) t from ⟨hfr.1, hfr.2, htf⟩)
  have HP := hide hp
  have HFZ := hide (fun (zs : List Int) (hz : SigsOf n zs) => (fit_good hz hok).2 hfit)
  have HIS := hide (fun (a b : ByteArray) (W : World) => is_any kind a b W hk)
  obtain ⟨n', hn'⟩ : ∃ n', n' = n := ⟨_, rfl⟩
  have HE := hide (show ∀ e w', EcPost v n' kind f t M w e w' → EcPost v n kind f t M w e w' by rw [hn']; exact fun _ _ h => h)
  rw [← hn'] at HVAL HP HFZ
  clear hp hfit hf60 hok
  have hcn : (cNd n').toArray = (cNd n).toArray := by rw [hn']
  rw [hcn] at HVAL
  clear hcn hn'
  refine Calls.mono ?_ (fun e w' hh => HE.out e w' hh)
  clear HE
  obtain ⟨nk, at_, name, value, a, b, c0, d, KA, kc, kids⟩ := n
  unfold cNd at HVAL ⊢
  dsimp only at HVAL ⊢
  obtain ⟨W0, hW0⟩ : ∃ W0, w.alloc (.cells #[.int .i64 nk, .int .i64 at_, .string name, .string value, .int .i64 a, .int .i64 b, .int .i64 c0, .int .i64 d, .slice KA kids.length kc] 30) = W0 := ⟨_, rfl⟩
  have g0 := new_at hW0
  have hb0 : Below w.heap.size w W0 := by rw [← hW0]; exact (Below.refl _ _).alloc (Nat.le_refl _) _
  have HS0 := hide (SrcTo.start h hb0)
  have HB0 := hide hb0
  have HW0 := hide hW0
  have HVC := hide (HVAL.out W0 HS0.out)
  obtain ⟨y0, y1, y2, y3, y4, y5, y6, y7, y8⟩ := box9 g0
  clear ht g0 hb0 hW0 h HVAL
  unfold srcV at HVC ⊢
  go_enter Tryz.func72, Tryz.ntmps72
  go_upto_region 1 with (fail)
  rw [HW0.out]
  go_wp2_with fail
  refine HVC.out.mono ?_
  rintro e w2 (⟨g1, rfl, g2⟩ | ⟨g0, g1, rfl, g2⟩ | ⟨gin, gp, zs, gz, ⟨gfe, _, rfl, c', g3⟩ | ⟨gfe, grm, g3, A, ca, l, rfl, go, gs, gl⟩ | ⟨_, g2, _⟩⟩)
  · exact absurd HIR.out g1
  · obtain ⟨p, hp⟩ := HP.out; rw [hp] at g1; cases g1
  · exact absurd (HFZ.out zs gz) gfe
  · unfold VRes
    have HS2 := hide (HS0.out.trans g3)
    have HROW := hide (show Row w2 (Lo w2.heap.size) 3 encSp A l from go.row.more fun _ h => h.2.1)
    have HSP := hide gs
    have hlp : 0 < l.length := by
      cases l with
      | nil => exact gs.elim
      | cons x r => simp
    have hws := HS2.out.2.size
    have HEND := hide (fun (B : Option Addr) (cb : Nat) (wr : World) (hb : Below w2.heap.size w2 wr) (ho : OwnInt wr w2.heap.size B cb (chgT kind f l (l.length - 1))) => show EcPost v n' kind f t M w (.returned (.tuple #[.slice B (chgT kind f l (l.length - 1)).length cb, .int .i64 0])) wr from ⟨l, B, cb, HSP.out, gl, rfl, ho.lower hws, _, HS2.out.below hb⟩)
    clear gs go g3 gz gfe grm gp gin y0 y1 y2 y3 y4 y5 y6 y7 y8
    go_upto_region 13 with (fail)
    go_loopw [19, 20] (fun o i wr => EcRel kind f l w2.heap.size w2 o i wr) (fun _ i _ => l.length - (intOf i).toNat)
    case atStart => exact ⟨0, none, 0, .inl rfl, rfl, rfl, OwnInt.nil _ _, Below.refl _ _⟩
    case round =>
      obtain ⟨V, rfl⟩ : ∃ w2 : World, w2 = wr := ⟨_, rfl⟩
      obtain ⟨j, B, cb, hj, rfl, rfl, hown, hbr⟩ := hrel
      have HOWN := hide hown
      have HBR := hide hbr
      have hll := chgT_len kind f l j
      clear hown hbr
      by_cases hlt : j + 1 < l.length
      · obtain ⟨b0, o0, rfl, hb0, hc0⟩ := (HROW.out.grow HBR.out).at_ (show j < l.length by omega)
        obtain ⟨b1, o1, e1, hb1, hc1⟩ := (HROW.out.grow HBR.out).at_ hlt
        injection e1 with e1
        injection e1 with e1 e2
        subst e1 e2
        have HT := hide (show chgT kind f l (j + 1) = chgT kind f l j ++ chg1 kind f l[j] l[j + 1] by rw [chgT, List.getElem?_eq_getElem (show j < l.length by omega), List.getElem?_eq_getElem hlt])
        generalize l[j] = x at *
        generalize l[j + 1] = y at *
        obtain ⟨xf, xt, xv⟩ := x
        obtain ⟨yf, yt, yv⟩ := y
        unfold encSp at hc0 hc1
        have a2 := hc0 2 (by omega)
        have n0 := hc1 0 (by omega)
        have n2 := hc1 2 (by omega)
        simp only [List.getElem?_cons_zero, List.getElem?_cons_succ, Nat.add_zero] at a2 n0 n2
        unfold chg1 at HT
        dsimp only at HT
        clear hc0 hc1
        by_cases hfy : f ≤ yf
        · have T1 : decide (f ≤ yf) = true := decide_eq_true hfy
          obtain ⟨z, hz⟩ : ∃ z, isEv kind xv yv = z := ⟨_, rfl⟩
          have HC := hide (HIS.out xv yv V.drew)
          rw [hz] at HC HT
          have hx : ∀ W : World, Below V.heap.size V W → W.cell? ⟨b0, o0 + j * 3 + 2, none⟩ = some (.string xv) ∧ W.cell? ⟨b0, o0 + (j + 1) * 3, none⟩ = some (.int .i64 yf) ∧ W.cell? ⟨b0, o0 + (j + 1) * 3 + 2, none⟩ = some (.string yv) := fun W hb => by
            rw [hb.cell (p := ⟨b0, o0 + j * 3 + 2, none⟩) hb1, hb.cell (p := ⟨b0, o0 + (j + 1) * 3, none⟩) hb1, hb.cell (p := ⟨b0, o0 + (j + 1) * 3 + 2, none⟩) hb1]
            exact ⟨a2, n0, n2⟩
          have k0 := hx V.drew (below_drew (Below.refl _ _))
          have HX := hide hx
          have hj0 : (0 : Int) ≤ (j : Int) + 1 := by omega
          have hj1 : (0 : Int) ≤ (j : Int) := by omega
          have hj2 : (j : Int) < (l.length : Int) := by omega
          have hj3 : (j : Int) + 1 < (l.length : Int) := by omega
          have hw1 : IntKind.i64.wrap ((j : Int) + 1 - 1) = (j : Int) := by rw [IntWalk.i64_in _ (by omega)]; omega
          have hw2 : IntKind.i64.wrap (j : Int) = (j : Int) := by rw [IntWalk.i64_in _ (by omega)]
          clear hx hz
          go_upto_region 15 with (fail)
          go_region_held3 (fun wx => wx.cell? ⟨b0, o0 + j * 3 + 2, none⟩ = some (.string xv) ∧ wx.cell? ⟨b0, o0 + (j + 1) * 3, none⟩ = some (.int .i64 yf) ∧ wx.cell? ⟨b0, o0 + (j + 1) * 3 + 2, none⟩ = some (.string yv))
            (first | (with_reducible assumption) | exact k0)
            (first
              | (go_at_call 9
                 refine HC.out.mono ?_
                 rintro e w3 ⟨rfl, hb3⟩
                 have hb4 := bstep (below_drew (Below.refl V.heap.size V)) hb3
                 have HB3 := hide (bstep HBR.out hb4)
                 have k3 := HX.out w3 hb4
                 have HO3 := hide (show OwnInt w3 w2.heap.size B cb (chgT kind f l j) from own_block HOWN.out fun g hg => hb4.block g (own_ob HOWN.out g hg).2)
                 clear hb3 hb4))
          obtain ⟨-, k31, -⟩ := k3
          cases z with
          | false =>
            have hnn : ¬ (f ≤ yf ∧ false = true) := fun h => by cases h.2
            rw [if_neg hnn, List.append_nil] at HT
            clear hnn hfy
            go_wp2_with fail
            exact ⟨⟨j + 1, _, cb, .inr hlt, by go_num, by rw [HT.out], by rw [HT.out]; exact HO3.out, HB3.out⟩, by simp [intOf]; omega⟩
          | true =>
            rw [if_pos ⟨hfy, rfl⟩] at HT
            have HOA := hide (World.ownsRow.alloc HO3.out (.cells #[.int .i64 yf] 3))
            have HNW := hide (heap_alloc_new w3 (.cells #[.int .i64 yf] 3))
            have hz3 := HB3.out.size
            clear hfy
            go_upto_region 16 with fail
            go_wp2_with (at_builtin; (refine append_src rfl _ _ 32 rfl w2.heap.size 3 i0 _ 1 8 Tryz.underlying32 hi0 hz0 hz1 hz2 rfl (by decide) (.slice B (chgT kind f l j).length cb) (chgT kind f l j).length ((chgT kind f l j).map (Value.int .i64)) rfl HOA.out (some ⟨w3.heap.size, 0, none⟩) 1 1 [.int .i64 yf] rfl rfl (src_block (t := 3) (fr := (0, 0)) HNW.out) (by intro u hu; simp at hu; subst hu; rfl) (by simp only [maxLen]; omega) (by omega) (by simp; omega) ?_); intro v' w5 hown5 hg5; obtain ⟨A5, c5, rfl, ho5⟩ := OwnInt.of_row (zs := chgT kind f l (j + 1)) hown5 (by rw [HT.out]; simp) (by rw [HT.out]; simp); rw [ob_eq] at hg5; have HO5 := hide ho5; have HB5 := hide ((HB3.out.alloc HB3.out.size (.cells #[.int .i64 yf] 3)).grown hg5 (by simp; omega) (fun g hg => (own_ob HOWN.out g hg).1)); clear hown5 hg5 ho5)
            exact ⟨⟨j + 1, A5, c5, .inr hlt, by go_num, rfl, HO5.out, HB5.out⟩, by simp [intOf]; omega⟩
        · have T1 : decide (f ≤ yf) = false := decide_eq_false hfy
          rw [if_neg (fun h => hfy h.1), List.append_nil] at HT
          clear hfy
          go_upto_region 15 with (fail)
          go_quiet (fail)
          have HO2 := hide (HOWN.out.drewN nq)
          have HB2 := hide (below_drewN HBR.out nq)
          go_wp2_with fail
          exact ⟨⟨j + 1, _, cb, .inr hlt, by go_num, by rw [HT.out], by rw [HT.out]; exact HO2.out, HB2.out⟩, by simp [intOf]; omega⟩
      · have hje : j = l.length - 1 := by omega
        subst hje
        have HF := hide (HEND.out B cb V HBR.out HOWN.out)
        clear hlt
        go_wp2_with fail
        go_ret2
        exact HF.out
  · omega

end Go.Proofs.YtbhcmnfeeogdhaaGreatDoor

/-
  event.find at an event of the kinds without conditions.
-/
namespace Go.Proofs.YtbhcmnfeeogdhaaGreatDoor
open Go.RowKit

set_option maxRecDepth 100000 in
set_option maxHeartbeats 8000000 in
theorem find_simple (v : Wv) (c : Int) (M : Nat) (kind at_ : Int) (name value : ByteArray) (a b c0 d : Int) (KA : Option Addr) (kc : Nat) (x : Nd) (f t : Int) (w : World) (h : SourceAt w M v (-1) c) (hv : SmallOk v) (ht : TreesAt w (Un M w.heap.size) KA [x]) (hok : okF x) (hf60 : FewOk 60 x)
    (h0 : 0 ≤ c) (h1 : c ≤ 100000) (hp : ∃ p, typeF x = some p) (hfit : ∀ y ∈ sigF x, sigE v x y = 0) (hk : 37 ≤ kind ∧ kind ≤ 41) (hf : 0 ≤ f) (hft : f ≤ t) (htf : t ≤ v.fin) :
    Calls Tryz.prog 33 #[srcV M, .agg #[.int .i64 kind, .int .i64 at_, .string name, .string value, .int .i64 a, .int .i64 b, .int .i64 c0, .int .i64 d, .slice KA 1 kc], .int .i64 f, .int .i64 t] w (EcPost v x kind f t M w) := by
  have hM := h.lt
  obtain ⟨W0, hW0⟩ : ∃ W0, w.alloc (.cells #[.int .i64 kind, .int .i64 at_, .string name, .string value, .int .i64 a, .int .i64 b, .int .i64 c0, .int .i64 d, .slice KA 1 kc] 30) = W0 := ⟨_, rfl⟩
  have g0 := new_at hW0
  have hb0 : Below w.heap.size w W0 := by rw [← hW0]; exact (Below.refl _ _).alloc (Nat.le_refl _) _
  have hT := tree_below ht hb0
  obtain ⟨bk, ok, rfl, hbk, hcx⟩ := hT.row.at_ (show 0 < [x].length by simp)
  have hkid := hT.each x (by simp)
  have hs0 := SrcTo.start h hb0
  have hbd : Below W0.heap.size W0 W0.drew := below_drew (Below.refl _ _)
  have hcall := chg_any v c M x kind f t W0.drew (hs0.below hbd).1 hv (tree_below hkid hbd) hok hf60 h0 h1 hp hfit (by unfold I64; omega) hf hft htf
  have HB0 := hide hb0
  have HS0 := hide (hs0.below hbd)
  have HW0 := hide hW0
  have HDS := hide (Nat.le_trans hb0.size hbd.size)
  obtain ⟨y0, y1, y2, y3, y4, y5, y6, y7, y8⟩ := box9 g0
  simp only [List.getElem_cons_zero] at hcx
  obtain ⟨x', hx'⟩ : ∃ x', x' = x := ⟨_, rfl⟩
  have HCH := hide (show Calls Tryz.prog 72 #[srcV M, .int .i64 kind, .agg (cNd x).toArray, .int .i64 f, .int .i64 t] W0.drew (EcPost v x' kind f t M W0.drew) by rw [hx']; exact hcall)
  rw [show EcPost v x kind f t M w = EcPost v x' kind f t M w by rw [hx']]
  clear hx' hcall hW0 g0 hb0 ht hT hkid hs0 hbd h hok hf60 hp hfit
  obtain ⟨m1, m2, m3, m4, m5, m6, m7, m8, mK, mc, ml⟩ := x
  unfold cNd at hcx HCH
  obtain ⟨c0', c1, c2, c3, c4, c5, c6, c7, c8⟩ := nine hcx
  clear hcx
  simp only [Nat.zero_mul, Nat.add_zero] at c0' c1 c2 c3 c4 c5 c6 c7 c8
  have T42 : (kind == 42) = false := beq_eq_false_iff_ne.2 (by omega)
  have T43 : (kind == 43) = false := beq_eq_false_iff_ne.2 (by omega)
  have T44 : (kind == 44) = false := beq_eq_false_iff_ne.2 (by omega)
  clear hk
  unfold srcV at HCH ⊢
  dsimp only at HCH
  go_enter Tryz.func33, Tryz.ntmps33
  go_upto_region 1 with (fail)
  rw [HW0.out]
  go_upto_region 27 with (fail)
  go_region_law
    (first
      | (go_simp
         go_at_call 72
         refine HCH.out.mono ?_
         rintro e w3 ⟨l, B, cb, e1, e2, rfl, e3, c', e4⟩
         have HE1 := hide (show EcPost v x' kind f t M w (.returned (.tuple #[.slice B (chgT kind f l (l.length - 1)).length cb, .int .i64 0])) w3 from ⟨l, B, cb, e1, e2, rfl, e3.lower HDS.out, c', HS0.out.trans e4⟩)
         clear e1 e2 e3 e4)
      | fail)
  all_goals
    go_wp2_with fail
    go_ret2
    exact HE1.out

end Go.Proofs.YtbhcmnfeeogdhaaGreatDoor

/-
  event.agrees: whether all nodes of a signal have a kind and a width.
-/
namespace Go.Proofs.YtbhcmnfeeogdhaaGreatDoor
open Go.RowKit

def AgrCE (x k d : Int) (n : Nd) : Prop := ∀ w : World, TreesAt w (Lo w.heap.size) n.KA n.kids → Calls Tryz.prog 67 #[.agg (cNd n).toArray, .int .i64 x, .int .i64 k, .int .i64 d] w (RetV (.bool (agrF x k d n)) w)

set_option maxRecDepth 100000 in
theorem agr1E_any (x k d : Int) (n : Nd) (ih : AgrCE x k d n) (B1 B2 B3 : Nat) (w : World) (ht : TreesAt w (Lo w.heap.size) n.KA n.kids) (hb : AgBox w B1 B2 B3 x k d) :
    Calls Tryz.prog 101 #[.agg (cNd n).toArray, .pointer (some ⟨B1, 0, none⟩), .pointer (some ⟨B2, 0, none⟩), .pointer (some ⟨B3, 0, none⟩)] w (RetV (.bool (!agrF x k d n)) w) := by
  obtain ⟨W0, hW0⟩ : ∃ W0, w.alloc (.cells (cNd n).toArray 30) = W0 := ⟨_, rfl⟩
  have g0 := new_at hW0
  have hb0 : Below w.heap.size w W0 := by rw [← hW0]; exact (Below.refl _ _).alloc (Nat.le_refl _) _
  have hcall := ih W0 (ht.grow hb0)
  have hbx := hb.below hb0
  generalize agrF x k d n = r at *
  obtain ⟨m1, m2, m3, m4, m5, m6, m7, m8, mK, mc, ml⟩ := n
  unfold cNd at hcall hW0 g0 ⊢
  have HC := hide hcall
  have HW0 := hide hW0
  have HB0 := hide hb0
  obtain ⟨y0, y1, y2, y3, y4, y5, y6, y7, y8⟩ := box9 g0
  have z1 := box_cell hbx.h1
  have z2 := box_cell hbx.h2
  have z3 := box_cell hbx.h3
  clear hcall hW0 g0 hb0 ht ih hb hbx
  go_enter Tryz.func101, Tryz.ntmps101
  go_upto_region 1 with (fail)
  rw [HW0.out]
  go_wp2_with (go_at_call 67; refine HC.out.mono ?_; rintro e w2 ⟨rfl, hb2⟩; have HB2 := hide hb2; clear hb2)
  go_ret
  exact ⟨rfl, bstep HB0.out HB2.out⟩

set_option maxRecDepth 100000 in
set_option maxHeartbeats 4000000 in
theorem agrIdxE_any (x k d : Int) (A : Option Addr) (c : Nat) (l : List Nd) (ih : ∀ n ∈ l, AgrCE x k d n) (B1 B2 B3 : Nat) (w : World) (ht : TreesAt w (Lo w.heap.size) A l) (hb : AgBox w B1 B2 B3 x k d) :
    Calls Tryz.prog 107 #[.slice A l.length c, .func (.func 101) #[] #[.pointer (some ⟨B1, 0, none⟩), .pointer (some ⟨B2, 0, none⟩), .pointer (some ⟨B3, 0, none⟩)]] w (RetIdxN w (l.all (agrF x k d))) := by
  have hl := ht.len
  have HT := hide ht
  have HB := hide hb
  have HIH := hide ih
  clear ht hb ih
  go_enter Tryz.func107, Tryz.ntmps107
  go_wp2_with fail
  go_loopw [8] (fun i wr => AiRel x k d l w i wr) (fun i _ => l.length - (intOf i).toNat)
  case atStart => exact ⟨0, Nat.zero_le _, rfl, rfl, Below.refl _ _⟩
  case round =>
    obtain ⟨j, hj, rfl, hok, hbr⟩ := hrel
    have HOK := hide hok
    have HBR := hide hbr
    clear hok hbr
    by_cases hlt : j < l.length
    · have hT := HT.out.grow HBR.out
      obtain ⟨bk, ok, rfl, hbk, hc⟩ := hT.row.at_ hlt
      have hmem := List.getElem_mem hlt
      have hkid := hT.each _ hmem
      have hcall := agr1E_any x k d _ (HIH.out _ hmem) B1 B2 B3 wr hkid (HB.out.below HBR.out)
      have HTK := hide (show (l.take (j + 1)).all (agrF x k d) = ((l.take j).all (agrF x k d) && agrF x k d l[j]) by rw [List.take_succ_eq_append_getElem hlt, List.all_append]; simp)
      have HBAD := hide (show agrF x k d l[j] = false → l.all (agrF x k d) = false from fun h => by
        rw [List.all_eq_false]
        exact ⟨_, hmem, by simp [h]⟩)
      generalize l[j] = q at *
      generalize agrF x k d q = r at *
      obtain ⟨n1, n2, n3, n4, n5, n6, n7, n8, nK, nc, nl⟩ := q
      unfold cNd at hc hcall
      obtain ⟨c0, c1, c2, c3, c4, c5, c6, c7, c8⟩ := nine hc
      have HC := hide hcall
      clear hc hkid hmem hT hcall
      cases r with
      | true =>
        have HN := hide (show (l.take (j + 1)).all (agrF x k d) = true by rw [HTK.out, HOK.out]; rfl)
        clear HTK HBAD
        go_wp2_with (go_at_call 101; refine HC.out.mono ?_; rintro e w2 ⟨rfl, hb2⟩; have HB2 := hide hb2; clear hb2)
        exact ⟨⟨j + 1, hlt, by go_num, HN.out, bstep HBR.out HB2.out⟩, by simp [intOf]; omega⟩
      | false =>
        have HN := hide (HBAD.out rfl)
        clear HTK HBAD
        go_wp2_with (go_at_call 101; refine HC.out.mono ?_; rintro e w2 ⟨rfl, hb2⟩; have HB2 := hide hb2; clear hb2)
        go_ret
        exact ⟨j, rfl, by rw [HN.out]; exact decide_eq_true (by omega), bstep HBR.out HB2.out⟩
    · have hke : j = l.length := by omega
      have HE := hide (show l.all (agrF x k d) = true by have := HOK.out; rw [hke, List.take_length] at this; exact this)
      clear hke
      go_wp2_with fail
      go_ret
      exact ⟨-1, rfl, by rw [HE.out]; rfl, HBR.out⟩
theorem agrHasE_any (x k d : Int) (A : Option Addr) (c : Nat) (l : List Nd) (ih : ∀ n ∈ l, AgrCE x k d n) (B1 B2 B3 : Nat) (w : World) (ht : TreesAt w (Lo w.heap.size) A l) (hb : AgBox w B1 B2 B3 x k d) :
    Calls Tryz.prog 74 #[.slice A l.length c, .func (.func 101) #[] #[.pointer (some ⟨B1, 0, none⟩), .pointer (some ⟨B2, 0, none⟩), .pointer (some ⟨B3, 0, none⟩)]] w (RetV (.bool (!l.all (agrF x k d))) w) := by
  go_enter Tryz.func74, Tryz.ntmps74
  go_wp2_with fail
  refine (agrIdxE_any x k d A c l ih B1 B2 B3 _ ht hb).mono ?_
  rintro e w1 ⟨n, rfl, hn, hb1⟩
  have HN := hide hn
  clear hn
  go_wp2_with fail
  go_ret
  exact ⟨by rw [← HN.out]; rfl, hb1⟩

set_option maxRecDepth 100000 in
set_option maxHeartbeats 4000000 in
theorem agreesE_any (x k d : Int) (n : Nd) : AgrCE x k d n := by
  induction n using Nd.ind with
  | h n ih =>
  intro w ht
  have IH := hide ih
  clear ih
  obtain ⟨kind, at_, name, value, a, b, c, d', KA, kc, kids⟩ := n
  unfold Nd.KA Nd.kids at ht
  unfold cNd
  have hself := agrF_mk x k d kind at_ name value a b c d' KA kc kids
  have hl := ht.len
  obtain ⟨W0, hW0⟩ : ∃ W0, (((w.alloc (.cells #[.int .i64 kind, .int .i64 at_, .string name, .string value, .int .i64 a, .int .i64 b, .int .i64 c, .int .i64 d', .slice KA kids.length kc] 30)).alloc (intO x)).alloc (intO k)).alloc (intO d) = W0 := ⟨_, rfl⟩
  obtain ⟨p0, p1, p2, p3, hb0⟩ := chain4 _ _ _ _ _ hW0
  have HT := hide (ht.grow hb0)
  have HG0 := hide p0
  have HBX := hide (show AgBox W0 (w.heap.size + 1) (w.heap.size + 1 + 1) (w.heap.size + 1 + 1 + 1) x k d from ⟨p1, p2, p3⟩)
  have HB0 := hide hb0
  have HW0 := hide hW0
  obtain ⟨y0, y1, y2, y3, y4, y5, y6, y7, y8⟩ := box9 p0
  have z1 := box_cell p1
  have z2 := box_cell p2
  have z3 := box_cell p3
  have HKID := hide (agrHasE_any x k d KA kc kids (fun m hm => IH.out m hm) _ _ _ W0 HT.out HBX.out)
  clear ht hb0 hW0 p0 p1 p2 p3
  have HQ := hide (show ∀ (o : Bool) (wr : World), agrF x k d (.mk kind at_ name value a b c d' KA kc kids) = o → Below W0.heap.size W0 wr → RetV (.bool (agrF x k d (.mk kind at_ name value a b c d' KA kc kids))) w (.returned (.bool o)) wr from fun o wr h hb => ⟨by rw [h], bstep HB0.out hb⟩)
  have HEQ := hide hself
  clear hself
  go_enter Tryz.func67, Tryz.ntmps67
  go_upto_region 1 with (fail)
  rw [show (((w.alloc (.cells #[.int .i64 kind, .int .i64 at_, .string name, .string value, .int .i64 a, .int .i64 b, .int .i64 c, .int .i64 d', .slice KA kids.length kc] 30)).alloc (.cells #[.int .i64 x] 3)).alloc (.cells #[.int .i64 k] 3)).alloc (.cells #[.int .i64 d] 3) = W0 from HW0.out]
  by_cases hbad : kind = 1 ∧ a = x ∧ (c ≠ k ∨ b ≠ d)
  · obtain ⟨rfl, rfl, hcd⟩ := hbad
    have HR := hide (HQ.out false W0 (HEQ.out.trans (by rcases hcd with h | h <;> simp [h])) (Below.refl _ _))
    clear HQ HEQ
    by_cases h1 : c = k
    · have h2 : b ≠ d := hcd.resolve_left (fun h => h h1)
      have T1 : (b != d) = true := by simp [h2]
      subst h1
      clear hcd h2
      go_wp2_with fail
      go_ret
      exact HR.out
    · have T1 : (c != k) = true := by simp [h1]
      clear hcd h1
      go_wp2_with fail
      go_ret
      exact HR.out
  · have HR := hide (fun wr hb => HQ.out (kids.all (agrF x k d)) wr (HEQ.out.trans (by
      have : (!(decide (kind = 1) && decide (a = x) && (decide (c ≠ k) || decide (b ≠ d)))) = true := by
        rw [Bool.not_eq_true', Bool.eq_false_iff]
        intro h
        rw [Bool.and_eq_true, Bool.and_eq_true, Bool.or_eq_true, decide_eq_true_eq, decide_eq_true_eq, decide_eq_true_eq, decide_eq_true_eq] at h
        exact hbad ⟨h.1.1, h.1.2, h.2⟩
      rw [this, Bool.true_and])) hb)
    clear HQ HEQ
    by_cases h1 : kind = 1
    · subst h1
      by_cases h2 : a = x
      · subst h2
        obtain ⟨h3, h4⟩ : c = k ∧ b = d := ⟨Classical.byContradiction fun h => hbad ⟨rfl, rfl, .inl h⟩, Classical.byContradiction fun h => hbad ⟨rfl, rfl, .inr h⟩⟩
        subst h3 h4
        clear hbad
        go_wp2_with (go_at_call 74; refine HKID.out.mono ?_; rintro e w2 ⟨rfl, hb2⟩; have HB2 := hide hb2; clear hb2)
        go_ret
        exact HR.out _ HB2.out
      · have T1 : (a == x) = false := beq_eq_false_iff_ne.2 h2
        clear hbad h2
        go_wp2_with (go_at_call 74; refine HKID.out.mono ?_; rintro e w2 ⟨rfl, hb2⟩; have HB2 := hide hb2; clear hb2)
        go_ret
        exact HR.out _ HB2.out
    · have T1 : (kind == 1) = false := beq_eq_false_iff_ne.2 h1
      clear hbad h1
      go_wp2_with (go_at_call 74; refine HKID.out.mono ?_; rintro e w2 ⟨rfl, hb2⟩; have HB2 := hide hb2; clear hb2)
      go_ret
      exact HR.out _ HB2.out

end Go.Proofs.YtbhcmnfeeogdhaaGreatDoor

/-
  event.readable: no error, where all signals of a tree fit and the source has no limit.
-/
namespace Go.Proofs.YtbhcmnfeeogdhaaGreatDoor
open Go.RowKit

def EdRel (v : Wv) (c : Int) (M : Nat) (f t : Int) (zs : List Int) (w : World) (N : Nat) (o : Obj) (zb : Nat) (ZA : Option Addr) (zc : Nat) (i : Value) (wr : World) : Prop :=
  ∃ j : Nat, j ≤ zs.length ∧ i = .int .i64 (j : Int) ∧ SrcTo w M v (-1) (c + allC v f t (zs.take j)) wr ∧ wr.heap[N]? = some o ∧ OwnInt wr zb ZA zc zs
def EdPost (v : Wv) (c : Int) (M : Nat) (w : World) (e : Ending) (w' : World) : Prop := e = .returned (.int .i64 0) ∧ ∃ c', 0 ≤ c' ∧ c' ≤ c + 192 ∧ SrcTo w M v (-1) c' w'

set_option maxRecDepth 100000 in
set_option maxHeartbeats 8000000 in
theorem eread_ok (v : Wv) (c : Int) (M : Nat) (n : Nd) (f t : Int) (w : World) (h : SourceAt w M v (-1) c) (hv : SmallOk v) (ht : TreesAt w (Un M w.heap.size) n.KA n.kids) (hok : okF n) (h60 : nodesF n ≤ 60) (hev : ∀ x ∈ sigF n, ∀ k d, agrF x k d n = true → k ≠ 3)
    (h0 : 0 ≤ c) (h1 : c ≤ 50000) (hf : 0 ≤ f) (hft : f ≤ t) (htf : t ≤ v.fin) (hfit : ∀ x ∈ sigF n, sigE v n x = 0) :
    Calls Tryz.prog 32 #[srcV M, .agg (cNd n).toArray, .int .i64 f, .int .i64 t] w (EdPost v c M w) := by
  have hsn := sig_nodes n
  have hsl : (sigF n).length ≤ 1000000 := by omega
  have HSIG := hide (fun (W : World) (h2 : TreesAt W (Lo W.heap.size) n.KA n.kids) => signals2_any n W h2 hok hsl)
  have HAGR := hide (fun (x k d : Int) => agreesE_any x k d n)
  obtain ⟨n', hn'⟩ : ∃ n', n' = n := ⟨_, rfl⟩
  have HEV := hide (show ∀ x ∈ sigF n', ∀ k d, agrF x k d n' = true → k ≠ 3 by rw [hn']; exact hev)
  have HFIT := hide (show ∀ x ∈ sigF n', sigE v n' x = 0 by rw [hn']; exact hfit)
  have HSIG2 := hide (show ∀ (W : World) (h2 : TreesAt W (Lo W.heap.size) n.KA n.kids), Calls Tryz.prog 66 #[.agg (cNd n).toArray] W (SigsPost2 n' W) by rw [hn']; exact HSIG.out)
  have HAGR2 := hide (show ∀ (x k d : Int) (W : World), TreesAt W (Lo W.heap.size) n.KA n.kids → Calls Tryz.prog 67 #[.agg (cNd n).toArray, .int .i64 x, .int .i64 k, .int .i64 d] W (RetV (.bool (agrF x k d n')) W) by rw [hn']; exact fun x k d => HAGR.out x k d)
  clear HSIG HAGR hn' hev hfit hsn hsl h60 hok
  have hM := h.lt
  obtain ⟨kind, at_, name, value, a, b, c0, d, KA, kc, kids⟩ := n
  unfold Nd.KA Nd.kids at ht HSIG2 HAGR2
  unfold cNd at HSIG2 HAGR2 ⊢
  dsimp only at HSIG2 HAGR2
  obtain ⟨W0, hW0⟩ : ∃ W0, w.alloc (.cells #[.int .i64 kind, .int .i64 at_, .string name, .string value, .int .i64 a, .int .i64 b, .int .i64 c0, .int .i64 d, .slice KA kids.length kc] 30) = W0 := ⟨_, rfl⟩
  have g0 := new_at hW0
  have hb0 : Below w.heap.size w W0 := by rw [← hW0]; exact (Below.refl _ _).alloc (Nat.le_refl _) _
  have HT := hide (tree_below ht hb0)
  have HTW := hide ht
  have HS0 := hide (SrcTo.start h hb0)
  have HG0 := hide g0
  have HB0 := hide hb0
  have HW0 := hide hW0
  have HSC := hide (HSIG2.out W0 (HT.out.more fun _ => un_lo))
  obtain ⟨y0, y1, y2, y3, y4, y5, y6, y7, y8⟩ := box9 g0
  have hz0w : w.heap.size < W0.heap.size := box_lt g0
  clear ht g0 hb0 hW0 h HSIG2
  unfold srcV
  have hmk := meth_kind (some ⟨M, 0, none⟩)
  go_enter Tryz.func32, Tryz.ntmps32
  go_upto_region 1 with (fail)
  rw [HW0.out]
  go_upto_region 2 with (go_at_call 66; refine HSC.out.mono ?_; rintro e w1 ⟨ZA, zc, zs, rfl, hzi, hzl, hzp, hzm, hzb, hzn, hzI, zb, hzb2, hzo⟩; have HZ := hide (And.intro hzp (And.intro hzm (And.intro hzn hzI))); have HZB := hide hzb; have HZO := hide hzo; clear hzi hzp hzm hzn hzI hzb hzo)
  have hzs := HZB.out.size
  have HS1 := hide (HS0.out.below HZB.out)
  have HG1 := hide ((HZB.out.block _ hz0w).trans HG0.out)
  have hfz : ∀ x ∈ zs, sigE v n' x = 0 := fun x hx => HFIT.out x ((HZ.out.2.1 x (HZ.out.2.2.2 x hx)).1 hx)
  have HFZ := hide hfz
  have hz8 : zs.length ≤ 8 := by
    have := nodup_few v.sigs.length (zs := zs) HZ.out.2.2.1 (fun x hx => ⟨(sigE_zero (hfz x hx)).1, (sigE_zero (hfz x hx)).2.1⟩)
    have h8 := hv.len
    omega
  have hcb : allC v f t zs ≤ 24 * 8 := by
    have := allC_le (v := v) (f := f) (t := t) (zs := zs) (fun x hx => oneC_fit hv (hfz x hx))
    omega
  clear y0 y1 y2 y3 y4 y5 y6 y7 y8 hfz
  go_loopw [17] (fun i wr => EdRel v c M f t zs w w.heap.size (.cells #[.int .i64 kind, .int .i64 at_, .string name, .string value, .int .i64 a, .int .i64 b, .int .i64 c0, .int .i64 d, .slice KA kids.length kc] 30 (0, 0)) zb ZA zc i wr) (fun i _ => zs.length - (intOf i).toNat)
  case atStart => exact ⟨0, Nat.zero_le _, rfl, by simpa [allC] using HS1.out, HG1.out, HZO.out⟩
  case round =>
    obtain ⟨W, rfl⟩ : ∃ w2 : World, w2 = wr := ⟨_, rfl⟩
    obtain ⟨j, hj, rfl, hrs, hbx, hzo⟩ := hrel
    have hcp := allC_pos v f t (zs.take j)
    have hct := allC_take v f t zs j
    have HSRC := hide hrs
    have HBX := hide hbx
    have HZO2 := hide hzo
    have hfin := hv.fin.2
    by_cases hlt : j < zs.length
    · obtain ⟨xb, xo, rfl, hxb, hxc⟩ := hzo.ats.at_ hlt
      have hmem : zs[j] ∈ zs := List.getElem_mem hlt
      have hxI := HZ.out.2.2.2 _ hmem
      have htk : zs.take (j + 1) = zs.take j ++ [zs[j]] := List.take_succ_eq_append_getElem hlt
      have hsg0 := HFZ.out _ hmem
      generalize zs[j] = x at *
      obtain ⟨hx0, hxr, _⟩ := sigE_zero hsg0
      have hone := oneC_pos v f t x
      have hcn : allC v f t (zs.take j) + oneC v f t x ≤ allC v f t zs := by
        have := allC_take v f t zs (j + 1)
        rwa [htk, allC_snoc] at this
      obtain ⟨cj, hcj⟩ : ∃ cj, c + allC v f t (zs.take j) = cj := ⟨_, rfl⟩
      rw [hcj] at HSRC
      have HTK := hide htk
      clear hrs hbx hzo htk
      obtain ⟨k, rfl⟩ : ∃ k : Nat, x = (k : Int) := ⟨x.toNat, by omega⟩
      have hkl : k < v.sigs.length := by omega
      have hsk : v.sigs[k]? = some (sgnAt v (k : Int)) := by
        have := (sgn_mem (v := v) (x := (k : Int)) (by omega) (by omega)).1
        simpa using this
      have hsm := hv.each _ (List.mem_of_getElem? hsk)
      have hq : callC (-1) cj (k : Int) v.sigs.length = 0 := by unfold callC; rw [if_neg (by omega), if_neg (by omega)]
      have HKE := hide (kind_ok M v (-1) cj k W HSRC.out.1 (by omega) (by omega) hq _ hsk)
      have hagr : agrF (k : Int) (sgnAt v (k : Int)).kind (sgnAt v (k : Int)).width n' = true := by
        unfold sigE at hsg0
        rw [if_neg (by omega)] at hsg0
        cases hg : agrF (k : Int) (sgnAt v (k : Int)).kind (sgnAt v (k : Int)).width n'
        · rw [hg] at hsg0
          simp at hsg0
        · rfl
      have honeE : oneC v f t (k : Int) = 4 + ((beh (sgnAt v (k : Int)).chs f t).length : Int) := rfl
      have hk3 := HEV.out (k : Int) ((HZ.out.2.1 _ hxI).1 hmem) (sgnAt v (k : Int)).kind (sgnAt v (k : Int)).width hagr
      generalize hsq : sgnAt v (k : Int) = s at *
      have T3 : (s.kind == 3) = false := beq_eq_false_iff_ne.2 hk3
      have HAK := hide hagr
      clear hagr hsq hsg0
      go_wp2_with fail
      refine HKE.out.mono ?_
      rintro e w2 ⟨rfl, hs2⟩
      have HS2 := hide (HSRC.out.trans hs2)
      have hbx2 := (hs2.2.block _ (box_lt HBX.out) (fun e => by injection e with e; omega)).trans HBX.out
      obtain ⟨y0, y1, y2, y3, y4, y5, y6, y7, y8⟩ := box9 hbx2
      have HBX2 := hide hbx2
      have HBT2 := hide hs2.2
      clear hs2 hbx2
      have htr := tree_src (L := -1) (c := cj + 1) HTW.out HS2.out
      have HAG := hide (HAGR2.out (k : Int) s.kind s.width w2 (htr.more fun _ => un_lo))
      rw [HAK.out] at HAG
      have HOF := hide (fun (w3 : World) (hs3 : SrcTo w M v (-1) (cj + 1) w3) => show Calls Tryz.prog 68 #[.iface 36 (.pointer (some ⟨M, 0, none⟩)), .int .i64 (k : Int), .int .i64 f, .int .i64 t] w3 (OfPost v (-1) (cj + 1) M s f t w3) from
        of_any v (-1) (cj + 1) M k s f t w3 hs3.1 hsk hsm.sorted (by have := hsm.len; omega) (fun h9 => by have := hsm.width.1 h9; omega) hk3 (by omega) (by omega) hf hft htf (by omega))
      go_wp2_with (go_at_call 67; refine HAG.out.mono ?_; rintro e w3 ⟨rfl, hb3⟩; have HB3 := hide hb3; have HS3 := hide (HS2.out.below hb3); clear hb3 y0 y1 y2 y3 y4 y5 y6 y7 y8)
      refine (HOF.out w3 HS3.out).mono ?_
      rintro e w4 (⟨hr4, A4, c4, l4, rfl, ho4, hsp4, hl4, hs4⟩ | ⟨hL4, hr4, rfl, ⟨c9, hs4⟩⟩)
      · have hbw4 : But W.heap.size (some M) W w4 := HBT2.out.trans (((But.of HB3.out).mono HBT2.out.size).trans (hs4.2.mono (Nat.le_trans HBT2.out.size HB3.out.size)))
        have hcnt : cj + 1 + ((beh s.chs f t).length : Int) + 3 = c + allC v f t (zs.take (j + 1)) := by rw [HTK.out, allC_snoc, honeE]; omega
        have hsrc4 := HS3.out.trans hs4
        rw [hcnt] at hsrc4
        have hbx4 := (hbw4.block _ (box_lt HBX.out) (fun e => by injection e with e; omega)).trans HBX.out
        have hzo4 : OwnInt w4 zb (some ⟨xb, xo, none⟩) zc zs := own_block HZO2.out fun g hg => hbw4.block g (own_ob HZO2.out g hg).2 (fun e => by injection e with e; have := (own_ob HZO2.out g hg).1; have := HB0.out.size; omega)
        have HR := hide (And.intro hsrc4 (And.intro hbx4 hzo4))
        clear hbw4 hsrc4 hbx4 hzo4 ho4 hsp4 hs4 hr4 hcnt
        go_wp2_with fail
        exact ⟨⟨j + 1, hlt, by go_num, HR.out⟩, by simp [intOf]; omega⟩
      · omega
    · have hje : j = zs.length := by omega
      rw [hje, List.take_length] at HSRC
      have HF := hide (show EdPost v c M w (.returned (.int .i64 0)) W from ⟨rfl, c + allC v f t zs, by have := allC_pos v f t zs; omega, by omega, HSRC.out⟩)
      clear hje hrs hbx hzo
      go_wp2_with fail
      go_ret
      exact HF.out

end Go.Proofs.YtbhcmnfeeogdhaaGreatDoor
