/-
  Several texts in one: ESamp, RSamp, TextsT, Few53, EIs, EIsE, LawKinds. Each says at its head what it holds.
-/
import Derived.Test.YtbhcmnfeeogdhaaGreatDoorES23
import Derived.Test.YtbhcmnfeeogdhaaGreatDoorES5
import Derived.Deep.RegionLaw
import Derived.Deep.RegionHeld3
import Derived.Test.YtbhcmnfeeogdhaaGreatDoorES14
import Derived.Test.YtbhcmnfeeogdhaaGreatDoorES18
import Derived.Test.YtbhcmnfeeogdhaaGreatDoorES8
import Derived.Test.YtbhcmnfeeogdhaaGreatDoorES11
import Derived.Test.YtbhcmnfeeogdhaaGreatDoorES12
import Derived.Test.YtbhcmnfeeogdhaaGreatDoorES10
import Derived.Deep.QuietTactic
import Derived.BigQuiet

/-
  event.Sample: the values one tick before some times.
-/
namespace Go.Proofs.YtbhcmnfeeogdhaaGreatDoor
open Go.RowKit

theorem allC_small {v : Wv} (hv : SmallOk v) {n : Nd} {zs : List Int} (hz : SigsOf n zs) (he : fitE v n zs = 0) (f t : Int) : 0 ≤ allC v f t zs ∧ allC v f t zs ≤ 192 := by
  have h0 := fitE_ok.1 he
  have h1 := nodup_few v.sigs.length (zs := zs) hz.1 (fun x hx => ⟨(sigE_zero (h0 x hx)).1, (sigE_zero (h0 x hx)).2.1⟩)
  have h2 := hv.len
  have := allC_le (v := v) (f := f) (t := t) (zs := zs) (fun x hx => oneC_fit hv (h0 x hx))
  have h3 := allC_pos v f t zs
  constructor <;> omega
def SmRel (v : Wv) (n : Nd) (er : Int) (ts : List Int) (M : Nat) (c0 : Int) (w : World) (NB : Obj) (o i : Value) (wr : World) : Prop :=
  ∃ (j : Nat) (A : Option Addr) (c : Nat) (c' : Int), j ≤ ts.length ∧ i = .int .i64 (j : Int) ∧ o = .slice A j c ∧ OwnStr wr (w.heap.size + 1) A c ((ts.take j).map (smpG v n)) ∧ smpE v.fin er ts = smpE v.fin er (ts.drop j) ∧ SrcTo w M v (-1) c' wr ∧ wr.heap[w.heap.size]? = some NB ∧ 0 ≤ c' ∧ c' ≤ c0 + 192 * j
def SmpPost (v : Wv) (n : Nd) (zs ts : List Int) (M : Nat) (w : World) (e : Ending) (w' : World) : Prop :=
  (∃ p q, e = .returned (.tuple #[p, q]) ∧ SmpR v n zs ts p q w') ∧ ∃ c', SrcTo w M v (-1) c' w'

set_option maxRecDepth 100000 in
set_option maxHeartbeats 80000000 in
theorem sample_any (v : Wv) (c : Int) (M : Nat) (n : Nd) (zs : List Int) (TA : Option Addr) (tc : Nat) (ts : List Int) (w : World) (h : SourceAt w M v (-1) c) (hv : SmallOk v) (ht : TreesAt w (Un M w.heap.size) n.KA n.kids) (hok : okF n) (hf60 : FewOk 60 n) (hz : SigsOf n zs)
    (h0 : 0 ≤ c) (h1 : c ≤ 50000) (hI : ∀ W, But w.heap.size (some M) w W → IntsAt W W.heap.size TA ts) (hl : ts.length ≤ 40) :
    Calls Tryz.prog 17 #[srcV M, .agg (cNd n).toArray, .slice TA ts.length tc] w (SmpPost v n zs ts M w) := by
  obtain ⟨i0, hi0, hz0, hz1, hz2⟩ := info_parts infoStr
  have hM := h.lt
  have hfin := hv.fin.2
  have HTYP := hide (fun (W : World) (hs : SrcTo w M v (-1) c W) => typedE_any n 0 W ((tree_src ht hs).more fun _ => un_lo))
  have HVAL := hide (fun (u c' : Int) (W : World) (hs : SrcTo w M v (-1) c' W) (q0 : 0 ≤ c') (q1 : c' ≤ 100000) => value_any2 v (-1) c' M n u u W hs.1 hv (tree_src ht hs) hok hf60 (few_short n hf60) q0 q1 (.inl (by decide)) (fun h => by omega))
  have HEND := hide (fun (W : World) (c' : Int) (hs : SrcTo w M v (-1) c' W) => end_any M v (-1) c' W hs.1)
  have HAC := hide (fun (he : fitE v n zs = 0) (u : Int) => allC_small hv hz he u u)
  obtain ⟨n', hn'⟩ : ∃ n', n' = n := ⟨_, rfl⟩
  have HE := hide (show ∀ e w', SmpPost v n' zs ts M w e w' → SmpPost v n zs ts M w e w' by rw [hn']; exact fun _ _ h => h)
  rw [← hn'] at HTYP HVAL HAC hz
  have hcn : (cNd n').toArray = (cNd n).toArray := by rw [hn']
  rw [hcn] at HTYP HVAL
  clear hf60 hok hcn hn'
  have HZ := hide hz
  refine Calls.mono ?_ (fun e w' hh => HE.out e w' hh)
  clear HE hz
  obtain ⟨nk, at_, name, value, a, b, c0, d, KA, kc, kids⟩ := n
  unfold cNd at HTYP HVAL ⊢
  dsimp only at HTYP HVAL ⊢
  obtain ⟨W0, hW0⟩ : ∃ W0, w.alloc (.cells #[.int .i64 nk, .int .i64 at_, .string name, .string value, .int .i64 a, .int .i64 b, .int .i64 c0, .int .i64 d, .slice KA kids.length kc] 30) = W0 := ⟨_, rfl⟩
  have g0 := new_at hW0
  have hb0 : Below w.heap.size w W0 := by rw [← hW0]; exact (Below.refl _ _).alloc (Nat.le_refl _) _
  have HG0 := hide g0
  have HS0 := hide (SrcTo.start h hb0)
  have HB0 := hide hb0
  have HW0 := hide hW0
  obtain ⟨y0, y1, y2, y3, y4, y5, y6, y7, y8⟩ := box9 g0
  have HTC := hide (HTYP.out W0 HS0.out)
  have HI := hide hI
  clear ht g0 hb0 hW0 h HTYP hI
  unfold srcV at HVAL ⊢
  have hm := meth_end (some ⟨M, 0, none⟩)
  obtain ⟨r, hr⟩ : ∃ r, typeF n' = r := ⟨_, rfl⟩
  rw [hr] at HTC
  go_enter Tryz.func17, Tryz.ntmps17
  go_upto_region 1 with (fail)
  rw [HW0.out]
  cases r with
  | none =>
    have HT0 := hide (show (7 : Int) = smpT v n' zs ts by unfold smpT; rw [hr]; rfl)
    clear hr
    unfold typB at HTC
    dsimp only at HTC
    go_wp2_with (go_at_call 40; refine HTC.out.mono ?_; rintro e w2 ⟨rfl, hb2⟩; have HB2 := hide hb2; clear hb2)
    go_ret2
    exact ⟨⟨_, _, rfl, .err HT0.out (by decide)⟩, _, HS0.out.below HB2.out⟩
  | some p =>
    have HT0 := hide (show smpT v n' zs ts = smpE v.fin (fitE v n' zs) ts by unfold smpT; rw [hr]; rfl)
    have HP := hide (show ∃ p, typeF n' = some p from ⟨p, hr⟩)
    clear hr
    rw [show typB (some p) 0 = true from rfl] at HTC
    go_upto_region 5 with (go_at_call 40; refine HTC.out.mono ?_; rintro e w2 ⟨rfl, hb2⟩; have HB2 := hide hb2; clear hb2)
    clear y0 y1 y2 y3 y4 y5 y6 y7 y8
    have HS2 := hide (HS0.out.below HB2.out)
    have HG2 := hide ((HB2.out.block _ (box_lt HG0.out)).trans HG0.out)
    go_loopw [8, 18] (fun o i wr => SmRel v n' (fitE v n' zs) ts M c w (.cells #[.int .i64 nk, .int .i64 at_, .string name, .string value, .int .i64 a, .int .i64 b, .int .i64 c0, .int .i64 d, .slice KA kids.length kc] 30 (0, 0)) o i wr) (fun _ i _ => ts.length - (intOf i).toNat)
    case atStart => exact ⟨0, none, 0, c, Nat.zero_le _, rfl, rfl, OwnStr.nil _ _, rfl, HS2.out, HG2.out, h0, by omega⟩
    case round =>
      obtain ⟨V, rfl⟩ : ∃ w2 : World, w2 = wr := ⟨_, rfl⟩
      obtain ⟨j, A2, c2, c', hj, rfl, rfl, hown, hsm, hsr, hbx, hc0, hc1⟩ := hrel
      have HOWN := hide hown
      have HSM := hide hsm
      have HSR := hide hsr
      have HBX := hide hbx
      clear hown hsm hsr hbx
      by_cases hlt : j < ts.length
      · obtain ⟨bt, ot, rfl, hbt, hct⟩ := (HI.out V HSR.out.2).at_ hlt
        have HO := hide (fun (er : Int) (h : ¬ (1 ≤ ts[j] ∧ ts[j] ≤ v.fin)) => smp_out (fin := v.fin) (er := er) hlt h)
        have HBD := hide (fun (er : Int) (h : 1 ≤ ts[j] ∧ ts[j] ≤ v.fin) (he : er ≠ 0) => smp_bad (fin := v.fin) (er := er) hlt h he)
        have HST := hide (fun (er : Int) (h : 1 ≤ ts[j] ∧ ts[j] ≤ v.fin) (he : er = 0) => smp_step (fin := v.fin) (er := er) hlt h he)
        have HTK := hide (show (ts.take (j + 1)).map (smpG v n') = (ts.take j).map (smpG v n') ++ [smpG v n' ts[j]] by rw [List.take_succ_eq_append_getElem hlt, List.map_append]; rfl)
        have hlk : ((ts.take j).map (smpG v n')).length = j := by simp; omega
        have j0 : (0 : Int) ≤ (j : Int) := Int.natCast_nonneg _
        have j1 : (j : Int) < (ts.length : Int) := by omega
        generalize ts[j] = u at *
        by_cases hin : 1 ≤ u ∧ u ≤ v.fin
        case neg =>
          have HF := hide (show (2 : Int) = smpT v n' zs ts by rw [HT0.out, HSM.out, HO.out _ hin])
          by_cases h1 : u < 1
          case pos =>
            have T1 : decide (u < 1) = true := decide_eq_true h1
            clear h1 hin
            go_wp2_with fail
            go_ret2
            exact ⟨⟨_, _, rfl, .err HF.out (by decide)⟩, _, HSR.out⟩
          case neg =>
            have T1 : decide (u < 1) = false := decide_eq_false h1
            have T2 : decide (v.fin < u) = true := decide_eq_true (by omega)
            clear h1 hin
            go_wp2_with (go_at_call 319; refine (HEND.out V _ HSR.out).mono ?_; rintro e w3 ⟨rfl, rfl⟩)
            go_ret2
            exact ⟨⟨_, _, rfl, .err HF.out (by decide)⟩, _, HSR.out⟩
        have T1 : decide (u < 1) = false := decide_eq_false (by omega)
        have T2 : decide (v.fin < u) = false := decide_eq_false (by omega)
        have hw : IntKind.i64.wrap (u - 1) = u - 1 := by rw [IntWalk.i64_in _ (by omega)]
        have HIN := hide hin
        have HV := hide (HVAL.out (u - 1) c' V HSR.out hc0 (by omega))
        have HIR := hide (show inR v (u - 1) (u - 1) from ⟨by omega, Int.le_refl _, by omega⟩)
        obtain ⟨y0, y1, y2, y3, y4, y5, y6, y7, y8⟩ := box9 HBX.out
        clear hin
        go_upto_region 9 with (go_at_call 319; refine (HEND.out V _ HSR.out).mono ?_; rintro e w3 ⟨rfl, rfl⟩)
        go_wp2_with fail
        refine HV.out.mono ?_
        rintro e w3 (⟨g1, rfl, g2⟩ | ⟨g0, g1, rfl, g2⟩ | ⟨gin, gp, ys, gz, ⟨gfe, _, rfl, c3, g3⟩ | ⟨gfe, grm, g3, A3, ca, l, rfl, go, gs, gl⟩ | ⟨_, g2, _⟩⟩)
        · exact absurd HIR.out g1
        · obtain ⟨p, hp⟩ := HP.out; rw [hp] at g1; cases g1
        · obtain rfl := sigs_same HZ.out gz
          unfold VRes
          have TF : (fitE v n' zs != 0) = true := bne_iff_ne.2 gfe
          have HF := hide (show fitE v n' zs = smpT v n' zs ts by rw [HT0.out, HSM.out, HBD.out _ HIN.out gfe])
          have HFE := hide gfe
          have HS3 := hide (HSR.out.trans g3)
          clear gfe g3 gz gp gin y0 y1 y2 y3 y4 y5 y6 y7 y8
          go_wp2_with fail
          go_ret2
          exact ⟨⟨_, _, rfl, .err HF.out HFE.out⟩, _, HS3.out⟩
        · obtain rfl := sigs_same HZ.out gz
          unfold VRes
          have hac := HAC.out gfe (u - 1)
          have HSN := hide (HSM.out.trans (HST.out _ HIN.out gfe))
          have HS3 := hide (HSR.out.trans g3)
          have hMV : M < V.heap.size := Nat.lt_of_lt_of_le hM HSR.out.2.size
          have HBX3 := hide ((g3.2.block _ (box_lt HBX.out) (fun e => by injection e with e; omega)).trans HBX.out)
          have HO4 := hide (show OwnStr w3 (w.heap.size + 1) A2 c2 ((ts.take j).map (smpG v n')) from own_block HOWN.out fun g hg => g3.2.block g (own_ob HOWN.out g hg).2 (fun e => by injection e with e; have := (own_ob HOWN.out g hg).1; omega))
          have hz3 := g3.2.size
          have hbz := HSR.out.2.size
          have hbl := box_lt HBX.out
          cases l with
          | nil => exact gs.elim
          | cons x r =>
            obtain ⟨b0, o0, rfl, hb0, hc0'⟩ := go.row.at_ (show 0 < (x :: r).length by simp)
            have hxv : x.v = smpG v n' u := (gs.first rfl).2.symm
            simp only [List.getElem_cons_zero] at hc0'
            obtain ⟨xf, xt, xv⟩ := x
            unfold encSp at hc0'
            have a2 := hc0' 2 (by omega)
            simp only [List.getElem?_cons_zero, List.getElem?_cons_succ, Nat.add_zero, Nat.zero_mul] at a2
            dsimp only at hxv
            subst hxv
            generalize smpG v n' u = vq at *
            have HO3 := hide (World.ownsRow.alloc HO4.out (.cells #[.string vq] 9))
            have HN := hide (heap_alloc_new w3 (.cells #[.string vq] 9))
            rw [hlk] at HO3
            have hpos : (0 : Int) < ((⟨xf, xt, vq⟩ :: r : List Spn).length : Int) := by simp only [List.length_cons]; omega
            clear hc0' gs go g3 gz gfe gp gin y0 y1 y2 y3 y4 y5 y6 y7 y8
            go_wp2_with (at_builtin; (refine append_src rfl _ _ 49 rfl (w.heap.size + 1) 9 i0 _ 1 16 Tryz.underlying49 hi0 hz0 hz1 hz2 rfl (by decide) (.slice A2 j c2) j (((ts.take j).map (smpG v n')).map Value.string) rfl HO3.out (some ⟨w3.heap.size, 0, none⟩) 1 1 [.string vq] rfl rfl (src_block (t := 9) (fr := (0, 0)) HN.out) (str_one vq) (by simp only [maxLen]; omega) (by omega) (by simp; omega) ?_); intro v' w4 hown4 hg4)
            obtain ⟨A5, c5, rfl, ho5⟩ := OwnStr.of_row (l := (ts.take (j + 1)).map (smpG v n')) hown4 (by rw [HTK.out]; simp; omega) (by rw [HTK.out]; simp)
            have hlk5 : ((ts.take (j + 1)).map (smpG v n')).length = j + 1 := by simp; omega
            rw [hlk5]
            rw [ob_eq] at hg4
            have hb4 : Below (w.heap.size + 1) w3 w4 := ((Below.refl _ _).alloc (by omega) _).grown hg4 (by simp; omega) (fun g hg => (own_ob HO4.out g hg).1)
            refine ⟨⟨j + 1, A5, c5, c' + allC v (u - 1) (u - 1) zs, hlt, by go_num, rfl, ho5, HSN.out, ⟨HS3.out.1.keep fun b hb => hb4.block b (by omega), HS3.out.2.trans ((But.of hb4).mono (by omega))⟩, (hb4.block _ (by omega)).trans HBX3.out, by omega, by omega⟩, by simp [intOf]; omega⟩
        · omega
      · have hje : j = ts.length := by omega
        subst hje
        rw [List.take_length] at HOWN
        rw [smp_end] at HSM
        have HF := hide (show SmpPost v n' zs ts M w (.returned (.tuple #[.slice A2 ts.length c2, .int .i64 0])) V from ⟨⟨_, _, rfl, 0, A2, c2, ts.map (smpG v n'), by rw [HT0.out, HSM.out], rfl, by rw [List.length_map], HOWN.out.strs.more fun b h => h.2.1, fun h => absurd rfl h, fun _ => rfl⟩, _, HSR.out⟩)
        clear hlt
        go_wp2_with fail
        go_ret2
        exact HF.out

end Go.Proofs.YtbhcmnfeeogdhaaGreatDoor

/-
  wavestoreref53.Sample: the values one tick before some times, by the reference.
-/
namespace Go.Proofs.YtbhcmnfeeogdhaaGreatDoor
open Go.RowKit

def RsRel (v : Wv) (n : Nd) (er : Int) (ts : List Int) (base : Nat) (w : World) (o i : Value) (wr : World) : Prop :=
  ∃ (j : Nat) (A : Option Addr) (c : Nat), j ≤ ts.length ∧ i = .int .i64 (j : Int) ∧ o = .slice A j c ∧ OwnStr wr base A c ((ts.take j).map (smpG v n)) ∧ smpE v.fin er ts = smpE v.fin er (ts.drop j) ∧ Below w.heap.size w wr
def RsPost (v : Wv) (n : Nd) (zs ts : List Int) (w : World) (e : Ending) (w' : World) : Prop :=
  (∃ p q, e = .returned (.tuple #[p, q]) ∧ SmpR v n zs ts p q w') ∧ Below w.heap.size w w'

set_option maxRecDepth 100000 in
set_option maxHeartbeats 80000000 in
theorem rsample_any (v : Wv) (n : Nd) (zs : List Int) (TA : Option Addr) (tc : Nat) (ts : List Int) (w : World) (hv : SmallOk v) (hS : SigsAt w (Lo w.heap.size) v.A v.sigs) (ht : TreesAt w (Lo w.heap.size) n.KA n.kids) (hok : okF n) (hle : (sigF n).length ≤ 1000000) (hf60 : FewOk 60 n) (hty : RtC n) (hz : SigsOf n zs)
    (hI : IntsAt w w.heap.size TA ts) (hl : ts.length ≤ 40) :
    Calls Tryz.prog 18 #[.agg (cWv v).toArray, .agg (cNd n).toArray, .slice TA ts.length tc] w (RsPost v n zs ts w) := by
  obtain ⟨i0, hi0, hz0, hz1, hz2⟩ := info_parts infoStr
  have HTY := hide (fun (W : World) (hb : Below w.heap.size w W) => hty W (ht.grow hb))
  have HFI := hide (fun (W : World) (hb : Below w.heap.size w W) => rfits_any v n W (hS.up hb) (ht.grow hb) hok hle)
  have HAT := hide (fun (hr : ∃ p, typeF n = some p) (hz : ∀ x ∈ sigF n, sigE v n x = 0) (u : Int) (W : World) (hb : Below w.heap.size w W) => rat_any v u hv n W (hS.up hb) (ht.grow hb) hok
    (by obtain ⟨p, hp⟩ := hr; exact siz_of n (env_ok_of hv u n (fun x hx => sigE_zero (hz x hx)) (few_short n hf60)) hf60 p hp)
    (fun x hx => by have := sigE_zero (hz x hx); exact ⟨this.1, this.2.1⟩))
  have HSZ := hide (fun (h : fitE v n zs = 0) (x : Int) (hx : x ∈ sigF n) => fitE_ok.1 h x ((hz.2.2.1 x (sig_I64 n hok x hx)).2 hx))
  have HZ := hide (fun (ys : List Int) (hy : SigsOf n ys) => sigs_same hz hy)
  have HI := hide (fun (W : World) (hb : Below w.heap.size w W) => hI.below hb)
  obtain ⟨n', hn'⟩ : ∃ n', n' = n := ⟨_, rfl⟩
  obtain ⟨v', hv'⟩ : ∃ v', v' = v := ⟨_, rfl⟩
  obtain ⟨NA, hNA⟩ : ∃ NA, (cNd n).toArray = NA := ⟨_, rfl⟩
  obtain ⟨VA, hVA⟩ : ∃ VA, (cWv v).toArray = VA := ⟨_, rfl⟩
  have hfi : v'.fin = v.fin := by rw [hv']
  have hfb := hv.fin
  have hNA' : (cNd n').toArray = NA := by rw [hn', hNA]
  unfold RtC at hty
  rw [← hn'] at HTY HFI HAT HSZ HZ ⊢
  rw [← hv'] at HFI HAT HSZ ⊢
  rw [hNA'] at HTY HFI HAT ⊢
  rw [show (cWv v').toArray = VA by rw [hv', hVA]] at HFI HAT ⊢
  obtain ⟨rz, hrz⟩ : ∃ rz, typeF n' = rz := ⟨_, rfl⟩
  rw [hrz] at HTY
  have HTQ := hide (show smpT v' n' zs ts = smpQ rz (smpE v'.fin (fitE v' n' zs) ts) by unfold smpT; rw [hrz])
  have HRZ := hide hrz
  clear hv hS ht hok hle hf60 hty hz hI hn' hv' hrz hNA'
  obtain ⟨kind, at_, name, value, a, b, c, d, KA, kc, kids⟩ := n
  obtain ⟨A, cA, sigs, G, gn, cG, fin⟩ := v
  unfold cNd at hNA
  unfold cWv at hVA
  subst hNA hVA
  dsimp only at hfi hfb
  obtain ⟨W0, hW0⟩ : ∃ W0, (w.alloc (.cells #[.slice A sigs.length cA, .slice G gn cG, .int .i64 fin] 27)).alloc (.cells #[.int .i64 kind, .int .i64 at_, .string name, .string value, .int .i64 a, .int .i64 b, .int .i64 c, .int .i64 d, .slice KA kids.length kc] 30) = W0 := ⟨_, rfl⟩
  obtain ⟨p0, p1, hb0⟩ := chain2 _ _ _ hW0
  have HH := hide (wn_held p0 p1)
  have HB0 := hide hb0
  have HW0 := hide hW0
  have HTC := hide (HTY.out W0 hb0)
  clear hb0 hW0 p0 p1 HTY
  go_enter Tryz.func18, Tryz.ntmps18
  go_upto_region 1 with (fail)
  rw [HW0.out]
  obtain ⟨q0, q1, q2, y0, y1, y2, y3, y4, y5, y6, y7, y8, -⟩ := HH.out W0 (Below.refl _ _)
  cases rz with
  | none =>
    unfold typV at HTC
    dsimp only at HTC
    have HT0 := hide (show smpT v' n' zs ts = 7 from HTQ.out)
    go_wp2_with (go_at_call 41; refine HTC.out.mono ?_; rintro e w3 ⟨rfl, hb3⟩; have HB3 := hide (bstep HB0.out hb3); clear hb3)
    go_ret2
    exact ⟨⟨_, _, rfl, .err HT0.out.symm (by decide)⟩, HB3.out⟩
  | some p =>
    have HP := hide (show ∃ p, typeF n' = some p from ⟨p, HRZ.out⟩)
    obtain ⟨pk, pw⟩ := p
    unfold typV at HTC
    dsimp only at HTC
    have HT0 := hide (show smpT v' n' zs ts = smpE v'.fin (fitE v' n' zs) ts from HTQ.out)
    clear HRZ HTQ
    go_upto_region 4 with (go_at_call 41; refine HTC.out.mono ?_; rintro e w3 ⟨rfl, hb3⟩; have HB3 := hide hb3; clear hb3 q0 q1 q2 y0 y1 y2 y3 y4 y5 y6 y7 y8)
    go_upto_region 6 with (fail)
    have hbE : Below W0.heap.size W0 (w3.alloc (.cells #[] 9)) := HB3.out.alloc HB3.out.size _
    go_loopw [11, 12] (fun o i wr => RsRel v' n' (fitE v' n' zs) ts W0.heap.size W0 o i wr) (fun _ i _ => ts.length - (intOf i).toNat)
    case atStart => exact ⟨0, _, 0, Nat.zero_le _, rfl, rfl, str_empty w3 HB3.out.size, rfl, hbE⟩
    case round =>
      obtain ⟨V, rfl⟩ : ∃ w2 : World, w2 = wr := ⟨_, rfl⟩
      obtain ⟨j, A2, c2, hj, rfl, rfl, hown, hsm, hbr⟩ := hrel
      have HOWN := hide hown
      have HSM := hide hsm
      have HBR := hide hbr
      clear hown hsm hbr hbE
      by_cases hlt : j < ts.length
      · obtain ⟨bt, ot, rfl, hbt, hct⟩ := (HI.out V (bstep HB0.out HBR.out)).at_ hlt
        obtain ⟨q0, q1, q2, y0, y1, y2, y3, y4, y5, y6, y7, y8, -⟩ := HH.out V HBR.out
        have HO := hide (fun (er : Int) (h : ¬ (1 ≤ ts[j] ∧ ts[j] ≤ v'.fin)) => smp_out (fin := v'.fin) (er := er) hlt h)
        have HBD := hide (fun (er : Int) (h : 1 ≤ ts[j] ∧ ts[j] ≤ v'.fin) (he : er ≠ 0) => smp_bad (fin := v'.fin) (er := er) hlt h he)
        have HST := hide (fun (er : Int) (h : 1 ≤ ts[j] ∧ ts[j] ≤ v'.fin) (he : er = 0) => smp_step (fin := v'.fin) (er := er) hlt h he)
        have HTK := hide (show (ts.take (j + 1)).map (smpG v' n') = (ts.take j).map (smpG v' n') ++ [smpG v' n' ts[j]] by rw [List.take_succ_eq_append_getElem hlt, List.map_append]; rfl)
        have hlk : ((ts.take j).map (smpG v' n')).length = j := by simp; omega
        have j0 : (0 : Int) ≤ (j : Int) := Int.natCast_nonneg _
        have j1 : (j : Int) < (ts.length : Int) := by omega
        generalize ts[j] = u at *
        by_cases hin : 1 ≤ u ∧ u ≤ fin
        case neg =>
          have HF := hide (show (2 : Int) = smpT v' n' zs ts by rw [HT0.out, HSM.out, HO.out _ (by rw [hfi]; exact hin)])
          by_cases h1 : u < 1
          case pos =>
            have T1 : decide (u < 1) = true := decide_eq_true h1
            clear h1 hin
            go_upto_region 8 with (fail)
            go_quiet (fail)
            go_wp2_with fail
            go_ret2
            exact ⟨⟨_, _, rfl, .err HF.out (by decide)⟩, below_drewN (bstep HB0.out HBR.out) _⟩
          case neg =>
            have T1 : decide (u < 1) = false := decide_eq_false h1
            have T2 : decide (fin < u) = true := decide_eq_true (by omega)
            clear h1 hin
            go_upto_region 8 with (fail)
            go_quiet (fail)
            go_wp2_with fail
            go_ret2
            exact ⟨⟨_, _, rfl, .err HF.out (by decide)⟩, below_drewN (bstep HB0.out HBR.out) _⟩
        have HIN := hide (show 1 ≤ u ∧ u ≤ v'.fin by rw [hfi]; exact hin)
        have T1 : decide (u < 1) = false := decide_eq_false (by omega)
        have T2 : decide (fin < u) = false := decide_eq_false (by omega)
        have hw : IntKind.i64.wrap (u - 1) = u - 1 := by rw [IntWalk.i64_in _ (by omega)]
        have hfz : ∀ W : World, Below V.heap.size V W → W.cell? ⟨bt, ot + j, none⟩ = some (.int .i64 u) := fun W hb => (hb.cell (p := ⟨bt, ot + j, none⟩) (Nat.lt_of_lt_of_le hbt (bstep HB0.out HBR.out).size)).trans hct
        have HX := hide hfz
        clear hin hfz
        go_upto_region 8 with (fail)
        go_quiet (fail)
        have HBQ := hide (below_drewN HBR.out nq)
        clear q0 q1 q2 y0 y1 y2 y3 y4 y5 y6 y7 y8 hct
        obtain ⟨q0, q1, q2, y0, y1, y2, y3, y4, y5, y6, y7, y8, -⟩ := HH.out (V.drewN nq) HBQ.out
        go_wp2_with fail
        refine (HFI.out _ (bstep HB0.out HBQ.out)).mono ?_
        rintro e w4 ⟨ys, hys, rfl, hb4⟩
        obtain rfl := HZ.out ys hys
        have hbv : Below V.heap.size V w4 := (below_drewN (Below.refl _ V) nq).trans hb4
        have HBV := hide hbv
        have HB4 := hide (bstep HBR.out hbv)
        clear hys q0 q1 q2 y0 y1 y2 y3 y4 y5 y6 y7 y8 hb4
        by_cases hfe : fitE v' n' zs = 0
        case neg =>
          have TF : (fitE v' n' zs != 0) = true := bne_iff_ne.2 hfe
          have HF := hide (show fitE v' n' zs = smpT v' n' zs ts by rw [HT0.out, HSM.out, HBD.out _ HIN.out hfe])
          have HFE := hide hfe
          clear hfe hbv
          go_wp2_with fail
          go_ret2
          exact ⟨⟨_, _, rfl, .err HF.out HFE.out⟩, bstep HB0.out HB4.out⟩
        have HSN := hide (HSM.out.trans (HST.out _ HIN.out hfe))
        have HC := hide (show Calls Tryz.prog 43 #[.agg #[.slice A sigs.length cA, .slice G gn cG, .int .i64 fin], .agg #[.int .i64 kind, .int .i64 at_, .string name, .string value, .int .i64 a, .int .i64 b, .int .i64 c, .int .i64 d, .slice KA kids.length kc], .int .i64 (u - 1)] w4.drew (RetV (.string (smpG v' n' u)) w4.drew) from HAT.out HP.out (HSZ.out hfe) (u - 1) w4.drew (bstep (bstep HB0.out HB4.out) (below_drew (Below.refl _ _))))
        rw [hfe]
        clear hfe
        generalize smpG v' n' u = vq at *
        have hc5 := HX.out w4 hbv
        have HO4 := hide (show OwnStr w4 W0.heap.size A2 c2 ((ts.take j).map (smpG v' n')) from own_block HOWN.out fun g hg => hbv.block g (own_ob HOWN.out g hg).2)
        obtain ⟨q0, q1, q2, y0, y1, y2, y3, y4, y5, y6, y7, y8, -⟩ := HH.out w4 HB4.out
        have hzw := HB4.out.size
        clear hbv
        go_upto_region 13 with (fail)
        go_region_law
          (first
            | (refine step_append_src rfl (.tmp 50) (.tmp 59) 49 rfl W0.heap.size 9 i0 _ 1 16 Tryz.underlying49 hi0 hz0 hz1 hz2 rfl (by decide) (.slice A2 j c2) j (((ts.take j).map (smpG v' n')).map Value.string) rfl HO6.out (some ⟨w5.heap.size, 0, none⟩) 1 1 [.string vq] rfl rfl (src_block (t := 9) (fr := (0, 0)) HN.out) (str_one vq) (by simp only [maxLen]; omega) (by omega) (by simp; omega) ?_
               intro v5 w6 hown5 hg5
               obtain ⟨A5, c5', rfl, ho5⟩ := OwnStr.of_row (l := (ts.take (j + 1)).map (smpG v' n')) hown5 (by rw [HTK.out]; simp; omega) (by rw [HTK.out]; simp)
               rw [ob_eq] at hg5
               rw [show ((ts.take (j + 1)).map (smpG v' n')).length = j + 1 by simp; omega]
               have HO7 := hide ho5
               have HB6 := hide ((HB5.out.alloc (by omega) (.cells #[.string vq] 9)).grown hg5 (by simp; omega) (fun g hg => (own_ob HO4.out g hg).1))
               clear hown5 hg5 ho5)
            | (go_simp
               go_at_call 43
               refine HC.out.mono ?_
               rintro e w5 ⟨rfl, hb5⟩
               have hb5' := bstep (below_drew (Below.refl w4.heap.size w4)) hb5
               have HB5 := hide (bstep HB4.out hb5')
               have h9 : OwnStr w5 W0.heap.size A2 c2 ((ts.take j).map (smpG v' n')) := own_block HO4.out fun g hg => hb5'.block g (own_ob HO4.out g hg).2
               have HO6 := hide (World.ownsRow.alloc h9 (.cells #[.string vq] 9))
               have HN := hide (heap_alloc_new w5 (.cells #[.string vq] 9))
               rw [hlk] at HO6
               have hzw2 := hb5'.size
               clear hb5 hb5' h9)
            | fail)
        all_goals
          go_wp2_with fail
          exact ⟨⟨j + 1, A5, c5', hlt, by go_num, rfl, HO7.out, HSN.out, HB6.out⟩, by simp [intOf]; omega⟩
      · have hje : j = ts.length := by omega
        subst hje
        rw [List.take_length] at HOWN
        rw [smp_end] at HSM
        have HF := hide (show RsPost v' n' zs ts w (.returned (.tuple #[.slice A2 ts.length c2, .int .i64 0])) V from ⟨⟨_, _, rfl, 0, A2, c2, ts.map (smpG v' n'), by rw [HT0.out, HSM.out], rfl, by rw [List.length_map], HOWN.out.strs.more fun b h => h.2.1, fun h => absurd rfl h, fun _ => rfl⟩, bstep HB0.out HBR.out⟩)
        clear hlt
        go_wp2_with fail
        go_ret2
        exact HF.out

end Go.Proofs.YtbhcmnfeeogdhaaGreatDoor

/-
  wavestoreref16.Texts: true of lists of strings that read alike.
-/
namespace Go.Proofs.YtbhcmnfeeogdhaaGreatDoor
open Go.RowKit

def TxR (w : World) (n : Nat) (i : Value) (wr : World) : Prop := ∃ k q : Nat, k ≤ n ∧ i = .int .i64 k ∧ wr = w.drewN q

set_option maxRecDepth 100000 in
set_option maxHeartbeats 2000000 in
theorem texts_same (P P' : Nat → Prop) (A B : Option Addr) (c d : Nat) (vs : List ByteArray) (w : World) (ha : StrsAt w P A vs) (hb : StrsAt w P' B vs) (hl : vs.length * 16 ≤ 140737488355328) :
    Calls Tryz.prog 19 #[.slice A vs.length c, .slice B vs.length d] w fun e w' => e = .returned (.bool true) ∧ Below w.heap.size w w' := by
  go_enter Tryz.func19, Tryz.ntmps19
  go_wp2_with fail
  go_loopw [5] (fun i wr => TxR w vs.length i wr) (fun i _ => vs.length - (intOf i).toNat)
  case atStart => exact ⟨0, 0, Nat.zero_le _, rfl, rfl⟩
  case round =>
    obtain ⟨k, q, hk, rfl, rfl⟩ := hrel
    by_cases hlt : k < vs.length
    · obtain ⟨b1, o1, hAe, _, q1⟩ := ha.at_ hlt
      obtain ⟨b2, o2, hBe, _, q2⟩ := hb.at_ hlt
      subst hAe hBe
      generalize vs[k] = s at *
      have j0 : (0 : Int) ≤ (k : Int) := Int.natCast_nonneg _
      have j1 : (k : Int) < (vs.length : Int) := by omega
      have hq1 : (w.drewN q).cell? ⟨b1, o1 + k, none⟩ = some (.string s) := q1
      have hq2 : (w.drewN q).cell? ⟨b2, o2 + k, none⟩ = some (.string s) := q2
      go_wp2_with fail
      go_quiet (fail)
      go_wp2_with fail
      go_roundw
      case rel => exact ⟨k + 1, q + nq, by omega, by go_num, by simp [World.drewN]⟩
      case measure => simp [intOf]; omega
    · go_wp2_with fail
      go_ret
      exact ⟨rfl, below_drewN (Below.refl _ _) q⟩

end Go.Proofs.YtbhcmnfeeogdhaaGreatDoor

/-
  wavestorelaw53.few: the wave and the tree are small.
-/
namespace Go.Proofs.YtbhcmnfeeogdhaaGreatDoor
open Go.RowKit

def FwOk (v : Wv) (n : Nd) : Prop := SmallOk v ∧ v.fin ≤ 64 ∧ FewOk 40 n
def Few53Post (v : Wv) (n : Nd) (w : World) (e : Ending) (w' : World) : Prop := ∃ b : Bool, e = .returned (.bool b) ∧ (b = true → FwOk v n) ∧ Below w.heap.size w w'
theorem SigsAt.grow {w w' : World} {A : Option Addr} {l : List Sgn} (h : SigsAt w (Lo w.heap.size) A l) (hb : Below w.heap.size w w') : SigsAt w' (Lo w'.heap.size) A l := ⟨h.row.grow hb, fun s hs => (h.each s hs).grow hb⟩
theorem few_mono {p q : Nat} (hpq : p ≤ q) (n : Nd) : FewOk p n → FewOk q n := by
  induction n using Nd.ind with
  | h n ih =>
  intro h
  obtain ⟨h1, h2, h3, h4⟩ := (FewOk_eq p n).1 h
  exact (FewOk_eq q n).2 ⟨h1, h2, by omega, fun k hk => ih k hk (h4 k hk)⟩

set_option maxRecDepth 100000 in
set_option maxHeartbeats 4000000 in
theorem few53_any (v : Wv) (gs : List (Int × Int)) (n : Nd) (w : World) (hS : SigsAt w (Lo w.heap.size) v.A v.sigs) (hG : Row w (Lo w.heap.size) 2 cGp v.G gs) (hgn : v.gn = gs.length) (hsz : ∀ s ∈ v.sigs, ∀ c ∈ s.chs, c.val.size ≤ 9223372036854775807) (ht : TreesAt w (Lo w.heap.size) n.KA n.kids) :
    Calls Tryz.prog 11 #[.agg (cWv v).toArray, .agg (cNd n).toArray] w (Few53Post v n w) := by
  have HSM := hide (fun (W : World) (hb : Below w.heap.size w W) => small_any v gs W (hS.grow hb) (hG.grow hb) hgn hsz)
  have HFW := hide (fun (W : World) (hb : Below w.heap.size w W) => few49_any 40 (by decide) n W (ht.grow hb))
  have HCL := hide (fun (W : World) (hb : Below w.heap.size w W) (h : FewOk 40 n) => clean_any n W (ht.grow hb) (few_mono (by decide) n h))
  have HE := hide (fun (o : Bool) (wr : World) (h : o = true → FwOk v n) (hb : Below w.heap.size w wr) => show Few53Post v n w (.returned (.bool o)) wr from ⟨o, rfl, h, hb⟩)
  clear hS hG hgn hsz ht
  obtain ⟨A, cA, sigs, G, gn, cG, fin⟩ := v
  obtain ⟨kind, at_, name, value, a, b, c, d, KA, kc, kids⟩ := n
  unfold cWv cNd at *
  dsimp only at *
  generalize hvv : Wv.mk A cA sigs G gn cG fin = v at *
  generalize hnn : Nd.mk kind at_ name value a b c d KA kc kids = n at *
  have HFV := hide (show v.fin = fin by rw [← hvv])
  clear hvv hnn
  obtain ⟨W0, hW0⟩ : ∃ W0, (w.alloc (.cells #[.slice A sigs.length cA, .slice G gn cG, .int .i64 fin] 27)).alloc (.cells #[.int .i64 kind, .int .i64 at_, .string name, .string value, .int .i64 a, .int .i64 b, .int .i64 c, .int .i64 d, .slice KA kids.length kc] 30) = W0 := ⟨_, rfl⟩
  obtain ⟨p0, p1, hb0⟩ := chain2 _ _ _ hW0
  have HB0 := hide hb0
  have HG0 := hide p0
  have HG1 := hide p1
  have hl0 := box_lt p0
  have hl1 := box_lt p1
  have c0 := cell_of_row W0 w.heap.size 0 _ _ (0, 0) p0
  have c1 := cell_of_row W0 w.heap.size 1 _ _ (0, 0) p0
  have c2 := cell_of_row W0 w.heap.size 2 _ _ (0, 0) p0
  simp only [List.getElem?_toArray, List.getElem?_cons_zero, List.getElem?_cons_succ] at c0 c1 c2
  have HW0 := hide hW0
  clear hW0 p0 p1 hb0
  go_enter Tryz.func11, Tryz.ntmps11
  go_upto_region 1 with (fail)
  rw [HW0.out]
  go_wp2_with fail
  refine (HSM.out W0 HB0.out).mono ?_
  rintro e w1 ⟨b1, rfl, hs1, hb1⟩
  have HS1 := hide hs1
  have HB1 := hide (bstep HB0.out hb1)
  obtain ⟨y0, y1, y2, y3, y4, y5, y6, y7, y8⟩ := box9 ((hb1.block _ hl1).trans HG1.out)
  have HG11 := hide ((hb1.block _ hl1).trans HG1.out)
  have c2' := cell_of_row w1 w.heap.size 2 _ _ (0, 0) ((hb1.block _ hl0).trans HG0.out)
  simp only [List.getElem?_toArray, List.getElem?_cons_zero, List.getElem?_cons_succ] at c2'
  have hl11 := box_lt ((hb1.block _ hl1).trans HG1.out)
  clear hs1 hb1 c0 c1 c2
  cases b1 with
  | false =>
    go_wp2_with fail
    go_ret
    exact HE.out false _ (fun h => by cases h) HB1.out
  | true =>
    by_cases h64 : fin ≤ 64
    case neg =>
      have T64 : decide (fin ≤ 64) = false := decide_eq_false h64
      clear h64
      go_wp2_with fail
      go_ret
      exact HE.out false _ (fun h => by cases h) HB1.out
    have T64 : decide (fin ≤ 64) = true := decide_eq_true h64
    have H64 := hide (show v.fin ≤ 64 by rw [HFV.out]; exact h64)
    clear h64
    go_wp2_with fail
    refine (HFW.out w1 HB1.out).mono ?_
    rintro e w2 ⟨b2, rfl, hs2, hb2⟩
    have HB2 := hide (bstep HB1.out hb2)
    clear c2' y0 y1 y2 y3 y4 y5 y6 y7 y8
    obtain ⟨y0, y1, y2, y3, y4, y5, y6, y7, y8⟩ := box9 ((hb2.block _ hl11).trans HG11.out)
    have HS2 := hide hs2
    clear hs2 hb2
    cases b2 with
    | false =>
      go_wp2_with fail
      go_ret
      exact HE.out false _ (fun h => by cases h) HB2.out
    | true =>
      have HCX := hide (HCL.out w2 HB2.out (HS2.out rfl))
      go_wp2_with fail
      refine HCX.out.mono ?_
      rintro e w3 ⟨b3, rfl, hb3⟩
      have HB3 := hide (bstep HB2.out hb3)
      clear hb3 y0 y1 y2 y3 y4 y5 y6 y7 y8
      go_wp2_with fail
      go_ret
      exact HE.out b3 _ (fun _ => ⟨HS1.out (by first | trivial | rfl), H64.out, HS2.out (by first | trivial | rfl)⟩) HB3.out

end Go.Proofs.YtbhcmnfeeogdhaaGreatDoor

/-
  event.Is and wavestoreref53.Is: the kinds of events.
-/
namespace Go.Proofs.YtbhcmnfeeogdhaaGreatDoor
open Go.RowKit

def eq1 (a : ByteArray) (c : UInt8) : Bool := a.toList == [c]
def unkB (a : ByteArray) : Bool := eq1 a 120 || eq1 a 122
/-- two values are an event of a kind -/
def isEv (kind : Int) (a b : ByteArray) : Bool :=
  if kind = 37 then eq1 a 48 && eq1 b 49
  else if kind = 38 then eq1 a 49 && eq1 b 48
  else if kind = 39 then eq1 a 48 && (eq1 b 49 || unkB b) || unkB a && eq1 b 49
  else if kind = 40 then eq1 a 49 && (eq1 b 48 || unkB b) || unkB a && eq1 b 48
  else if kind = 41 then a.toList != b.toList else false
theorem eq1_self {a : ByteArray} {c : UInt8} (h : eq1 a c = true) : a = ⟨#[c]⟩ := by
  unfold eq1 at h
  rw [beq_iff_eq, ByteArray.toList_eq] at h
  exact ByteArray.ext (Array.toList_inj.1 h)
theorem eq1_lit (x c : UInt8) : eq1 ⟨#[x]⟩ c = (x == c) := by
  unfold eq1
  rw [ByteArray.toList_eq]
  simp
theorem str_cls (a : ByteArray) : a = ⟨#[48]⟩ ∨ a = ⟨#[49]⟩ ∨ a = ⟨#[120]⟩ ∨ a = ⟨#[122]⟩ ∨ (((a.toList == [48]) = false ∧ (a.toList == [49]) = false ∧ (a.toList == [120]) = false ∧ (a.toList == [122]) = false) ∧ eq1 a 48 = false ∧ eq1 a 49 = false ∧ eq1 a 120 = false ∧ eq1 a 122 = false) := by
  cases h0 : eq1 a 48
  · cases h1 : eq1 a 49
    · cases h2 : eq1 a 120
      · cases h3 : eq1 a 122
        · exact .inr (.inr (.inr (.inr ⟨⟨h0, h1, h2, h3⟩, rfl, rfl, rfl, rfl⟩)))
        · exact .inr (.inr (.inr (.inl (eq1_self h3))))
      · exact .inr (.inr (.inl (eq1_self h2)))
    · exact .inr (.inl (eq1_self h1))
  · exact .inl (eq1_self h0)

set_option maxRecDepth 100000 in
set_option maxHeartbeats 2000000 in
theorem unkE (a : ByteArray) (w : World) : Calls Tryz.prog 56 #[.string a] w fun e w' => e = .returned (.bool (unkB a)) ∧ w = w' := by
  go_enter Tryz.func56, Tryz.ntmps56
  go_wp2_with fail
  all_goals
    go_ret
    exact ⟨by simp_all [unkB, eq1], rfl⟩

end Go.Proofs.YtbhcmnfeeogdhaaGreatDoor

/-
  event.Is: the kinds of events, through a map of functions.
-/
namespace Go.Proofs.YtbhcmnfeeogdhaaGreatDoor
open Go.RowKit

/-- how the map of the kinds reads: a function by its number -/
def funR : Value → Option (DataW Unit × List MemPlace)
  | .func (.func f) ⟨[]⟩ ⟨[]⟩ => some (.lit (.int .i64 f), [])
  | .nilFunc => some (.lit (.int .i64 (-1)), [])
  | _ => none
def kindD : DataW Unit := (((((DataW.map []).put (.int .i64 37) (.lit (.int .i64 53))).put (.int .i64 38) (.lit (.int .i64 54))).put (.int .i64 39) (.lit (.int .i64 55))).put (.int .i64 40) (.lit (.int .i64 57))).put (.int .i64 41) (.lit (.int .i64 58))

set_option maxRecDepth 100000 in
set_option maxHeartbeats 8000000 in
theorem kinds_any (w : World) : Calls Tryz.prog 25 #[] w fun e w' => ∃ B, e = .returned (.map (some B)) ∧ w'.ownsMap Tryz.prog 3 funR B 5 kindD ∧ Below w.heap.size w w' := by
  have hmm := @run_makeMap Tryz.prog
  have hb0 : Below w.heap.size w (w.alloc (.map #[] 0)) := (Below.refl _ _).alloc (Nat.le_refl _) _
  have HB : ∀ g, some w.heap.size = some g → w.heap.size ≤ g := fun g h => by injection h with h; omega
  have hown : (w.alloc (.map #[] 0)).ownsMap Tryz.prog 3 funR w.heap.size 0 (.map []) := World.ownsMap_made _ _ _ _
  obtain ⟨V1, r1, o1, g1⟩ := hown.update intKeyB Tryz.underlying74 (by unfold maxLen; omega) (keyOf_B (i := 37) (by unfold I64; omega)) (val := .func (.func 53) #[] #[]) (d := .lit (.int .i64 53)) (ps := []) rfl
  obtain ⟨V2, r2, o2, g2⟩ := o1.update intKeyB Tryz.underlying74 (by unfold maxLen; omega) (keyOf_B (i := 38) (by unfold I64; omega)) (val := .func (.func 54) #[] #[]) (d := .lit (.int .i64 54)) (ps := []) rfl
  obtain ⟨V3, r3, o3, g3⟩ := o2.update intKeyB Tryz.underlying74 (by unfold maxLen; omega) (keyOf_B (i := 39) (by unfold I64; omega)) (val := .func (.func 55) #[] #[]) (d := .lit (.int .i64 55)) (ps := []) rfl
  obtain ⟨V4, r4, o4, g4⟩ := o3.update intKeyB Tryz.underlying74 (by unfold maxLen; omega) (keyOf_B (i := 40) (by unfold I64; omega)) (val := .func (.func 57) #[] #[]) (d := .lit (.int .i64 57)) (ps := []) rfl
  obtain ⟨V5, r5, o5, g5⟩ := o4.update intKeyB Tryz.underlying74 (by unfold maxLen; omega) (keyOf_B (i := 41) (by unfold I64; omega)) (val := .func (.func 58) #[] #[]) (d := .lit (.int .i64 58)) (ps := []) rfl
  have b1 := hb0.grown g1 hb0.size HB
  have b2 := b1.grown g2 b1.size HB
  have b3 := b2.grown g3 b2.size HB
  have b4 := b3.grown g4 b3.size HB
  have hb := b4.grown g5 b4.size HB
  go_enter Tryz.func25, Tryz.ntmps25
  go_wp2_with fail
  go_ret
  exact ⟨_, rfl, o5, hb⟩

set_option maxRecDepth 100000 in
set_option maxHeartbeats 8000000 in
theorem kind1_any (a b : ByteArray) (w : World) : Calls Tryz.prog 53 #[.string a, .string b] w fun e w' => e = .returned (.bool (isEv 37 a b)) ∧ w = w' := by
  cases ha : (a.toList == [48])
  all_goals
    go_enter Tryz.func53, Tryz.ntmps53
    go_wp2_with fail
    go_ret
    exact ⟨by simp [isEv, eq1, ha], rfl⟩

set_option maxRecDepth 100000 in
set_option maxHeartbeats 8000000 in
theorem kind2_any (a b : ByteArray) (w : World) : Calls Tryz.prog 54 #[.string a, .string b] w fun e w' => e = .returned (.bool (isEv 38 a b)) ∧ w = w' := by
  cases ha : (a.toList == [49])
  all_goals
    go_enter Tryz.func54, Tryz.ntmps54
    go_wp2_with fail
    go_ret
    exact ⟨by simp [isEv, eq1, ha], rfl⟩

set_option maxRecDepth 100000 in
set_option maxHeartbeats 8000000 in
theorem kind3_any (a b : ByteArray) (w : World) : Calls Tryz.prog 55 #[.string a, .string b] w fun e w' => e = .returned (.bool (isEv 39 a b)) ∧ w = w' := by
  rcases str_cls a with rfl | rfl | rfl | rfl | ⟨⟨a0, a1, a2, a3⟩, e0, e1, e2, e3⟩ <;> rcases str_cls b with rfl | rfl | rfl | rfl | ⟨⟨b0, b1, b2, b3⟩, f0, f1, f2, f3⟩
  all_goals
    go_enter Tryz.func55, Tryz.ntmps55
    go_wp2_with (go_at_call 56; refine (unkE _ _).mono ?_; rintro e w' ⟨rfl, rfl⟩; simp only [unkB, eq1, *])
    go_ret
    refine ⟨?_, rfl⟩
    simp [isEv, unkB, eq1_lit, *]

set_option maxRecDepth 100000 in
set_option maxHeartbeats 8000000 in
theorem kind4_any (a b : ByteArray) (w : World) : Calls Tryz.prog 57 #[.string a, .string b] w fun e w' => e = .returned (.bool (isEv 40 a b)) ∧ w = w' := by
  rcases str_cls a with rfl | rfl | rfl | rfl | ⟨⟨a0, a1, a2, a3⟩, e0, e1, e2, e3⟩ <;> rcases str_cls b with rfl | rfl | rfl | rfl | ⟨⟨b0, b1, b2, b3⟩, f0, f1, f2, f3⟩
  all_goals
    go_enter Tryz.func57, Tryz.ntmps57
    go_wp2_with (go_at_call 56; refine (unkE _ _).mono ?_; rintro e w' ⟨rfl, rfl⟩; simp only [unkB, eq1, *])
    go_ret
    refine ⟨?_, rfl⟩
    simp [isEv, unkB, eq1_lit, *]

set_option maxRecDepth 100000 in
set_option maxHeartbeats 8000000 in
theorem kind5_any (a b : ByteArray) (w : World) : Calls Tryz.prog 58 #[.string a, .string b] w fun e w' => e = .returned (.bool (isEv 41 a b)) ∧ w = w' := by
  cases hab : (a.toList == b.toList)
  all_goals
    go_enter Tryz.func58, Tryz.ntmps58
    go_wp2_with fail
    go_ret
    exact ⟨by simp [isEv, bne, hab], rfl⟩
theorem zeroF (w : World) : (zeroValue 72).run Tryz.prog w = .ok .nilFunc w := by kernel_rfl
theorem funR_inv {v : Value} {f : Nat} {ps : List MemPlace} (h : funR v = some (.lit (.int .i64 (f : Int)), ps)) : v = .func (.func f) #[] #[] := by
  unfold funR at h
  split at h
  · rename_i g
    injection h with h
    injection h with h1 h2
    injection h1 with h1
    injection h1 with _ h1
    rw [Int.ofNat_inj.1 h1]
  · injection h with h
    injection h with h1 h2
    injection h1 with h1
    injection h1 with _ h1
    omega
  · cases h
theorem kind_has : Maps.has kindD (.int .i64 37) = true ∧ Maps.has kindD (.int .i64 38) = true ∧ Maps.has kindD (.int .i64 39) = true ∧ Maps.has kindD (.int .i64 40) = true ∧ Maps.has kindD (.int .i64 41) = true := by
  refine ⟨?_, ?_, ?_, ?_, ?_⟩ <;> rfl
theorem kind_no {k : Int} (h7 : k ≠ 37) (h8 : k ≠ 38) (h9 : k ≠ 39) (h10 : k ≠ 40) (h11 : k ≠ 41) : Maps.has kindD (.int .i64 k) = false := by
  have hne : ∀ j : Int, k ≠ j → (Lit.int .i64 k) ≠ .int .i64 j := fun j h e => h (by injection e)
  unfold kindD
  rw [Maps.has_put_other (hne _ h11), Maps.has_put_other (hne _ h10), Maps.has_put_other (hne _ h9), Maps.has_put_other (hne _ h8), Maps.has_put_other (hne _ h7)]
  rfl

set_option maxRecDepth 100000 in
set_option maxHeartbeats 8000000 in
theorem is_any (kind : Int) (a b : ByteArray) (w : World) (hk : I64 kind) : Calls Tryz.prog 9 #[.int .i64 kind, .string a, .string b] w (RetV (.bool (isEv kind a b)) w) := by
  go_enter Tryz.func9, Tryz.ntmps9
  go_wp2_with fail
  refine (kinds_any w).mono ?_
  rintro e w2 ⟨B, rfl, hown, hb⟩
  have HB := hide hb
  have hlook := hown.look_ok intKeyB Tryz.underlying74 (zeroF w2) (zd := .lit (.int .i64 (-1))) (zp := []) rfl (keyOf_B hk)
  obtain ⟨v, ps, hrun, hv⟩ := hlook
  clear hown hb
  by_cases k1 : kind = 37
  · subst k1
    rw [kind_has.1] at hrun
    obtain rfl := funR_inv (f := 53) hv
    have HK := hide (kind1_any a b w2)
    clear hv
    go_wp2_with fail
    refine HK.out.mono ?_
    rintro e w3 ⟨rfl, rfl⟩
    go_wp2_with fail
    go_ret
    exact ⟨rfl, HB.out⟩
  by_cases k2 : kind = 38
  · subst k2
    rw [kind_has.2.1] at hrun
    obtain rfl := funR_inv (f := 54) hv
    have HK := hide (kind2_any a b w2)
    clear hv
    go_wp2_with fail
    refine HK.out.mono ?_
    rintro e w3 ⟨rfl, rfl⟩
    go_wp2_with fail
    go_ret
    exact ⟨rfl, HB.out⟩
  by_cases k3 : kind = 39
  · subst k3
    rw [kind_has.2.2.1] at hrun
    obtain rfl := funR_inv (f := 55) hv
    have HK := hide (kind3_any a b w2)
    clear hv
    go_wp2_with fail
    refine HK.out.mono ?_
    rintro e w3 ⟨rfl, rfl⟩
    go_wp2_with fail
    go_ret
    exact ⟨rfl, HB.out⟩
  by_cases k4 : kind = 40
  · subst k4
    rw [kind_has.2.2.2.1] at hrun
    obtain rfl := funR_inv (f := 57) hv
    have HK := hide (kind4_any a b w2)
    clear hv
    go_wp2_with fail
    refine HK.out.mono ?_
    rintro e w3 ⟨rfl, rfl⟩
    go_wp2_with fail
    go_ret
    exact ⟨rfl, HB.out⟩
  by_cases k5 : kind = 41
  · subst k5
    rw [kind_has.2.2.2.2] at hrun
    obtain rfl := funR_inv (f := 58) hv
    have HK := hide (kind5_any a b w2)
    clear hv
    go_wp2_with fail
    refine HK.out.mono ?_
    rintro e w3 ⟨rfl, rfl⟩
    go_wp2_with fail
    go_ret
    exact ⟨rfl, HB.out⟩
  rw [kind_no k1 k2 k3 k4 k5] at hrun
  have HE := hide (show isEv kind a b = false by unfold isEv; rw [if_neg k1, if_neg k2, if_neg k3, if_neg k4, if_neg k5])
  clear k1 k2 k3 k4 k5 hv
  go_wp2_with fail
  go_ret
  rw [HE.out]
  exact ⟨rfl, HB.out⟩

end Go.Proofs.YtbhcmnfeeogdhaaGreatDoor

/-
  wavestorelaw53.EventKinds, walked; the example is a premise here (EAwake proves it).
-/
namespace Go.Proofs.YtbhcmnfeeogdhaaGreatDoor
open Go.RowKit

def Awake53 : Prop := ∀ w : World, Calls Tryz.prog 8 #[] w fun e w' => e = .returned (.bool true) ∧ Below w.heap.size w w'

end Go.Proofs.YtbhcmnfeeogdhaaGreatDoor
