/-
  Several texts in one: ERead, ETyp, EHz, ETimes, EAwP. Each says at its head what it holds.
-/
import Derived.Test.YtbhcmnfeeogdhaaGreatDoorEK13
import Derived.Test.YtbhcmnfeeogdhaaGreatDoorEK15
import Derived.Test.YtbhcmnfeeogdhaaGreatDoorEK14
import Derived.Test.YtbhcmnfeeogdhaaGreatDoorEK12

/-
  event.readable: no error, where all signals of a tree fit and the source has no limit.
-/
namespace Go.Proofs.YtbhcmnfeeogdhaaGreatDoor
open Go.RowKit

def EdRel (v : Wv) (c : Int) (M : Nat) (f t : Int) (zs : List Int) (w : World) (N : Nat) (o : Obj) (zb : Nat) (ZA : Option Addr) (zc : Nat) (i : Value) (wr : World) : Prop :=
  ∃ j : Nat, j ≤ zs.length ∧ i = .int .i64 (j : Int) ∧ SrcTo w M v (-1) (c + allC v f t (zs.take j)) wr ∧ wr.heap[N]? = some o ∧ OwnInt wr zb ZA zc zs
def EdPost (v : Wv) (c : Int) (M : Nat) (w : World) (e : Ending) (w' : World) : Prop := e = .returned (.int .i64 0) ∧ ∃ c', 0 ≤ c' ∧ c' ≤ c + 192 ∧ SrcTo w M v (-1) c' w'

set_option maxRecDepth 100000 in
set_option maxHeartbeats 8000000 in
theorem eread_ok (v : Wv) (c : Int) (M : Nat) (n : Nd) (f t : Int) (w : World) (h : SourceAt w M v (-1) c) (hv : SmallOk v) (ht : TreesAt w (Un M w.heap.size) n.KA n.kids) (hok : okF n) (h60 : nodesF n ≤ 60) (hev : ∀ x ∈ sigF n, ∀ k d, agrF x k d n = true → k ≠ 3)
    (h0 : 0 ≤ c) (h1 : c ≤ 50000) (hf : 0 ≤ f) (hft : f ≤ t) (htf : t ≤ v.fin) (hfit : ∀ x ∈ sigF n, sigE v n x = 0) :
    Calls Tryz.prog 32 #[srcV M, .agg (cNd n).toArray, .int .i64 f, .int .i64 t] w (EdPost v c M w) := by
  have hsn := sig_nodes n
  have hsl : (sigF n).length ≤ 1000000 := by omega
  have HSIG := hide (fun (W : World) (h2 : TreesAt W (Lo W.heap.size) n.KA n.kids) => signals2_any n W h2 hok hsl)
  have HAGR := hide (fun (x k d : Int) => agreesE_any x k d n)
  obtain ⟨n', hn'⟩ : ∃ n', n' = n := ⟨_, rfl⟩
  have HEV := hide (show ∀ x ∈ sigF n', ∀ k d, agrF x k d n' = true → k ≠ 3 by rw [hn']; exact hev)
  have HFIT := hide (show ∀ x ∈ sigF n', sigE v n' x = 0 by rw [hn']; exact hfit)
  have HSIG2 := hide (show ∀ (W : World) (h2 : TreesAt W (Lo W.heap.size) n.KA n.kids), Calls Tryz.prog 66 #[.agg (cNd n).toArray] W (SigsPost2 n' W) by rw [hn']; exact HSIG.out)
  have HAGR2 := hide (show ∀ (x k d : Int) (W : World), TreesAt W (Lo W.heap.size) n.KA n.kids → Calls Tryz.prog 67 #[.agg (cNd n).toArray, .int .i64 x, .int .i64 k, .int .i64 d] W (RetV (.bool (agrF x k d n')) W) by rw [hn']; exact fun x k d => HAGR.out x k d)
  clear HSIG HAGR hn' hev hfit hsn hsl h60 hok
  have hM := h.lt
  obtain ⟨kind, at_, name, value, a, b, c0, d, KA, kc, kids⟩ := n
  unfold Nd.KA Nd.kids at ht HSIG2 HAGR2
  unfold cNd at HSIG2 HAGR2 ⊢
  dsimp only at HSIG2 HAGR2
  obtain ⟨W0, hW0⟩ : ∃ W0, w.alloc (.cells #[.int .i64 kind, .int .i64 at_, .string name, .string value, .int .i64 a, .int .i64 b, .int .i64 c0, .int .i64 d, .slice KA kids.length kc] 30) = W0 := ⟨_, rfl⟩
  have g0 := new_at hW0
  have hb0 : Below w.heap.size w W0 := by rw [← hW0]; exact (Below.refl _ _).alloc (Nat.le_refl _) _
  have HT := hide (tree_below ht hb0)
  have HTW := hide ht
  have HS0 := hide (SrcTo.start h hb0)
  have HG0 := hide g0
  have HB0 := hide hb0
  have HW0 := hide hW0
  have HSC := hide (HSIG2.out W0 (HT.out.more fun _ => un_lo))
  obtain ⟨y0, y1, y2, y3, y4, y5, y6, y7, y8⟩ := box9 g0
  have hz0w : w.heap.size < W0.heap.size := box_lt g0
  clear ht g0 hb0 hW0 h HSIG2
  unfold srcV
  have hmk := meth_kind (some ⟨M, 0, none⟩)
  go_enter Tryz.func32, Tryz.ntmps32
  go_upto_region 1 with (fail)
  rw [HW0.out]
  go_upto_region 2 with (go_at_call 66; refine HSC.out.mono ?_; rintro e w1 ⟨ZA, zc, zs, rfl, hzi, hzl, hzp, hzm, hzb, hzn, hzI, zb, hzb2, hzo⟩; have HZ := hide (And.intro hzp (And.intro hzm (And.intro hzn hzI))); have HZB := hide hzb; have HZO := hide hzo; clear hzi hzp hzm hzn hzI hzb hzo)
  have hzs := HZB.out.size
  have HS1 := hide (HS0.out.below HZB.out)
  have HG1 := hide ((HZB.out.block _ hz0w).trans HG0.out)
  have hfz : ∀ x ∈ zs, sigE v n' x = 0 := fun x hx => HFIT.out x ((HZ.out.2.1 x (HZ.out.2.2.2 x hx)).1 hx)
  have HFZ := hide hfz
  have hz8 : zs.length ≤ 8 := by
    have := nodup_few v.sigs.length (zs := zs) HZ.out.2.2.1 (fun x hx => ⟨(sigE_zero (hfz x hx)).1, (sigE_zero (hfz x hx)).2.1⟩)
    have h8 := hv.len
    omega
  have hcb : allC v f t zs ≤ 24 * 8 := by
    have := allC_le (v := v) (f := f) (t := t) (zs := zs) (fun x hx => oneC_fit hv (hfz x hx))
    omega
  clear y0 y1 y2 y3 y4 y5 y6 y7 y8 hfz
  go_loopw [17] (fun i wr => EdRel v c M f t zs w w.heap.size (.cells #[.int .i64 kind, .int .i64 at_, .string name, .string value, .int .i64 a, .int .i64 b, .int .i64 c0, .int .i64 d, .slice KA kids.length kc] 30 (0, 0)) zb ZA zc i wr) (fun i _ => zs.length - (intOf i).toNat)
  case atStart => exact ⟨0, Nat.zero_le _, rfl, by simpa [allC] using HS1.out, HG1.out, HZO.out⟩
  case round =>
    obtain ⟨W, rfl⟩ : ∃ w2 : World, w2 = wr := ⟨_, rfl⟩
    obtain ⟨j, hj, rfl, hrs, hbx, hzo⟩ := hrel
    have hcp := allC_pos v f t (zs.take j)
    have hct := allC_take v f t zs j
    have HSRC := hide hrs
    have HBX := hide hbx
    have HZO2 := hide hzo
    have hfin := hv.fin.2
    by_cases hlt : j < zs.length
    · obtain ⟨xb, xo, rfl, hxb, hxc⟩ := hzo.ats.at_ hlt
      have hmem : zs[j] ∈ zs := List.getElem_mem hlt
      have hxI := HZ.out.2.2.2 _ hmem
      have htk : zs.take (j + 1) = zs.take j ++ [zs[j]] := List.take_succ_eq_append_getElem hlt
      have hsg0 := HFZ.out _ hmem
      generalize zs[j] = x at *
      obtain ⟨hx0, hxr, _⟩ := sigE_zero hsg0
      have hone := oneC_pos v f t x
      have hcn : allC v f t (zs.take j) + oneC v f t x ≤ allC v f t zs := by
        have := allC_take v f t zs (j + 1)
        rwa [htk, allC_snoc] at this
      obtain ⟨cj, hcj⟩ : ∃ cj, c + allC v f t (zs.take j) = cj := ⟨_, rfl⟩
      rw [hcj] at HSRC
      have HTK := hide htk
      clear hrs hbx hzo htk
      obtain ⟨k, rfl⟩ : ∃ k : Nat, x = (k : Int) := ⟨x.toNat, by omega⟩
      have hkl : k < v.sigs.length := by omega
      have hsk : v.sigs[k]? = some (sgnAt v (k : Int)) := by
        have := (sgn_mem (v := v) (x := (k : Int)) (by omega) (by omega)).1
        simpa using this
      have hsm := hv.each _ (List.mem_of_getElem? hsk)
      have hq : callC (-1) cj (k : Int) v.sigs.length = 0 := by unfold callC; rw [if_neg (by omega), if_neg (by omega)]
      have HKE := hide (kind_ok M v (-1) cj k W HSRC.out.1 (by omega) (by omega) hq _ hsk)
      have hagr : agrF (k : Int) (sgnAt v (k : Int)).kind (sgnAt v (k : Int)).width n' = true := by
        unfold sigE at hsg0
        rw [if_neg (by omega)] at hsg0
        cases hg : agrF (k : Int) (sgnAt v (k : Int)).kind (sgnAt v (k : Int)).width n'
        · rw [hg] at hsg0
          simp at hsg0
        · rfl
      have honeE : oneC v f t (k : Int) = 4 + ((beh (sgnAt v (k : Int)).chs f t).length : Int) := rfl
      have hk3 := HEV.out (k : Int) ((HZ.out.2.1 _ hxI).1 hmem) (sgnAt v (k : Int)).kind (sgnAt v (k : Int)).width hagr
      generalize hsq : sgnAt v (k : Int) = s at *
      have T3 : (s.kind == 3) = false := beq_eq_false_iff_ne.2 hk3
      have HAK := hide hagr
      clear hagr hsq hsg0
      go_wp2_with fail
      refine HKE.out.mono ?_
      rintro e w2 ⟨rfl, hs2⟩
      have HS2 := hide (HSRC.out.trans hs2)
      have hbx2 := (hs2.2.block _ (box_lt HBX.out) (fun e => by injection e with e; omega)).trans HBX.out
      obtain ⟨y0, y1, y2, y3, y4, y5, y6, y7, y8⟩ := box9 hbx2
      have HBX2 := hide hbx2
      have HBT2 := hide hs2.2
      clear hs2 hbx2
      have htr := tree_src (L := -1) (c := cj + 1) HTW.out HS2.out
      have HAG := hide (HAGR2.out (k : Int) s.kind s.width w2 (htr.more fun _ => un_lo))
      rw [HAK.out] at HAG
      have HOF := hide (fun (w3 : World) (hs3 : SrcTo w M v (-1) (cj + 1) w3) => show Calls Tryz.prog 68 #[.iface 36 (.pointer (some ⟨M, 0, none⟩)), .int .i64 (k : Int), .int .i64 f, .int .i64 t] w3 (OfPost v (-1) (cj + 1) M s f t w3) from
        of_any v (-1) (cj + 1) M k s f t w3 hs3.1 hsk hsm.sorted (by have := hsm.len; omega) (fun h9 => by have := hsm.width.1 h9; omega) hk3 (by omega) (by omega) hf hft htf (by omega))
      go_wp2_with (go_at_call 67; refine HAG.out.mono ?_; rintro e w3 ⟨rfl, hb3⟩; have HB3 := hide hb3; have HS3 := hide (HS2.out.below hb3); clear hb3 y0 y1 y2 y3 y4 y5 y6 y7 y8)
      refine (HOF.out w3 HS3.out).mono ?_
      rintro e w4 (⟨hr4, A4, c4, l4, rfl, ho4, hsp4, hl4, hs4⟩ | ⟨hL4, hr4, rfl, ⟨c9, hs4⟩⟩)
      · have hbw4 : But W.heap.size (some M) W w4 := HBT2.out.trans (((But.of HB3.out).mono HBT2.out.size).trans (hs4.2.mono (Nat.le_trans HBT2.out.size HB3.out.size)))
        have hcnt : cj + 1 + ((beh s.chs f t).length : Int) + 3 = c + allC v f t (zs.take (j + 1)) := by rw [HTK.out, allC_snoc, honeE]; omega
        have hsrc4 := HS3.out.trans hs4
        rw [hcnt] at hsrc4
        have hbx4 := (hbw4.block _ (box_lt HBX.out) (fun e => by injection e with e; omega)).trans HBX.out
        have hzo4 : OwnInt w4 zb (some ⟨xb, xo, none⟩) zc zs := own_block HZO2.out fun g hg => hbw4.block g (own_ob HZO2.out g hg).2 (fun e => by injection e with e; have := (own_ob HZO2.out g hg).1; have := HB0.out.size; omega)
        have HR := hide (And.intro hsrc4 (And.intro hbx4 hzo4))
        clear hbw4 hsrc4 hbx4 hzo4 ho4 hsp4 hs4 hr4 hcnt
        go_wp2_with fail
        exact ⟨⟨j + 1, hlt, by go_num, HR.out⟩, by simp [intOf]; omega⟩
      · omega
    · have hje : j = zs.length := by omega
      rw [hje, List.take_length] at HSRC
      have HF := hide (show EdPost v c M w (.returned (.int .i64 0)) W from ⟨rfl, c + allC v f t zs, by have := allC_pos v f t zs; omega, by omega, HSRC.out⟩)
      clear hje hrs hbx hzo
      go_wp2_with fail
      go_ret
      exact HF.out

end Go.Proofs.YtbhcmnfeeogdhaaGreatDoor

/-
  event.typed; event.isEvent at an event of the kinds without conditions.
-/
namespace Go.Proofs.YtbhcmnfeeogdhaaGreatDoor
open Go.RowKit

def typB : Option (Int × Int) → Int → Bool
  | none, _ => false
  | some (k, q), wd => wd == 0 || (k == 0 && q == wd)

set_option maxRecDepth 100000 in
set_option maxHeartbeats 8000000 in
theorem typedE_any (n : Nd) (wd : Int) (w : World) (ht : TreesAt w (Lo w.heap.size) n.KA n.kids) :
    Calls Tryz.prog 40 #[.agg (cNd n).toArray, .int .i64 wd] w (RetV (.bool (typB (typeF n) wd)) w) := by
  have HTY := hide (fun (W : World) (hb : Below w.heap.size w W) => type_any n W (ht.grow hb))
  generalize typeF n = r at *
  clear ht
  obtain ⟨kind, at_, name, value, a, b, c, d, KA, kc, kids⟩ := n
  unfold cNd at *
  obtain ⟨W0, hW0⟩ : ∃ W0, w.alloc (.cells #[.int .i64 kind, .int .i64 at_, .string name, .string value, .int .i64 a, .int .i64 b, .int .i64 c, .int .i64 d, .slice KA kids.length kc] 30) = W0 := ⟨_, rfl⟩
  have g0 := new_at hW0
  have hb0 : Below w.heap.size w W0 := by rw [← hW0]; exact (Below.refl _ _).alloc (Nat.le_refl _) _
  have HTC := hide (HTY.out W0 hb0)
  have HB0 := hide hb0
  have HW0 := hide hW0
  obtain ⟨y0, y1, y2, y3, y4, y5, y6, y7, y8⟩ := box9 g0
  clear hW0 g0 hb0 HTY
  cases r with
  | none =>
    unfold typV at HTC
    dsimp only at HTC
    go_enter Tryz.func40, Tryz.ntmps40
    go_upto_region 1 with (fail)
    rw [HW0.out]
    go_wp2_with (go_at_call 21; refine HTC.out.mono ?_; rintro e w2 ⟨rfl, hb2⟩; have HB2 := hide hb2; clear hb2)
    go_ret
    exact ⟨rfl, bstep HB0.out HB2.out⟩
  | some p =>
    obtain ⟨k, q⟩ := p
    unfold typV at HTC
    dsimp only at HTC
    by_cases w0 : wd = 0
    · subst w0
      go_enter Tryz.func40, Tryz.ntmps40
      go_upto_region 1 with (fail)
      rw [HW0.out]
      go_wp2_with (go_at_call 21; refine HTC.out.mono ?_; rintro e w2 ⟨rfl, hb2⟩; have HB2 := hide hb2; clear hb2)
      go_ret
      exact ⟨rfl, bstep HB0.out HB2.out⟩
    · have T0 : (wd == 0) = false := beq_eq_false_iff_ne.2 w0
      by_cases k0 : k = 0
      · subst k0
        have HE := hide (show typB (some (0, q)) wd = (q == wd) by show (wd == 0 || ((0 : Int) == 0 && q == wd)) = _; rw [T0]; rfl)
        clear w0
        go_enter Tryz.func40, Tryz.ntmps40
        go_upto_region 1 with (fail)
        rw [HW0.out]
        go_wp2_with (go_at_call 21; refine HTC.out.mono ?_; rintro e w2 ⟨rfl, hb2⟩; have HB2 := hide hb2; clear hb2)
        go_ret
        rw [HE.out]
        exact ⟨rfl, bstep HB0.out HB2.out⟩
      · have T1 : (k == 0) = false := beq_eq_false_iff_ne.2 k0
        have HE := hide (show typB (some (k, q)) wd = false by show (wd == 0 || (k == 0 && q == wd)) = _; rw [T0, T1]; rfl)
        clear w0 k0
        go_enter Tryz.func40, Tryz.ntmps40
        go_upto_region 1 with (fail)
        rw [HW0.out]
        go_wp2_with (go_at_call 21; refine HTC.out.mono ?_; rintro e w2 ⟨rfl, hb2⟩; have HB2 := hide hb2; clear hb2)
        go_ret
        rw [HE.out]
        exact ⟨rfl, bstep HB0.out HB2.out⟩

set_option maxRecDepth 100000 in
set_option maxHeartbeats 8000000 in
theorem isev_simple (kind at_ : Int) (name value : ByteArray) (a b c d : Int) (KA : Option Addr) (kc : Nat) (x : Nd) (w : World) (ht : TreesAt w (Lo w.heap.size) KA [x]) (hk : 37 ≤ kind ∧ kind ≤ 41) :
    Calls Tryz.prog 30 #[.agg #[.int .i64 kind, .int .i64 at_, .string name, .string value, .int .i64 a, .int .i64 b, .int .i64 c, .int .i64 d, .slice KA 1 kc]] w (RetV (.bool (typB (typeF x) (if kind = 41 then 0 else 1))) w) := by
  obtain ⟨W0, hW0⟩ : ∃ W0, w.alloc (.cells #[.int .i64 kind, .int .i64 at_, .string name, .string value, .int .i64 a, .int .i64 b, .int .i64 c, .int .i64 d, .slice KA 1 kc] 30) = W0 := ⟨_, rfl⟩
  have g0 := new_at hW0
  have hb0 : Below w.heap.size w W0 := by rw [← hW0]; exact (Below.refl _ _).alloc (Nat.le_refl _) _
  have hT := ht.grow hb0
  obtain ⟨bk, ok, rfl, hbk, hcx⟩ := hT.row.at_ (show 0 < [x].length by simp)
  have hkid := hT.each x (by simp)
  have HTY := hide (fun (wd : Int) (W : World) (hb : Below W0.heap.size W0 W) => typedE_any x wd W (hkid.grow hb))
  have HB0 := hide hb0
  have HG0 := hide g0
  have HW0 := hide hW0
  obtain ⟨y0, y1, y2, y3, y4, y5, y6, y7, y8⟩ := box9 g0
  simp only [List.getElem_cons_zero] at hcx
  generalize typeF x = r at *
  clear hW0 g0 hb0 ht hT hkid
  obtain ⟨m1, m2, m3, m4, m5, m6, m7, m8, mK, mc, ml⟩ := x
  unfold cNd at hcx HTY
  obtain ⟨c0, c1, c2, c3, c4, c5, c6, c7, c8⟩ := nine hcx
  clear hcx
  simp only [Nat.zero_mul, Nat.add_zero] at c0 c1 c2 c3 c4 c5 c6 c7 c8
  obtain ⟨W1, hW1⟩ : ∃ W1, W0.alloc (.cells #[.int .i64 m1, .int .i64 m2, .string m3, .string m4, .int .i64 m5, .int .i64 m6, .int .i64 m7, .int .i64 m8, .slice mK ml.length mc] 30) = W1 := ⟨_, rfl⟩
  have hb1 : Below W0.heap.size W0 W1 := by rw [← hW1]; exact (Below.refl _ _).alloc (Nat.le_refl _) _
  have g1 := new_at hW1
  have HT1 := hide (fun wd => HTY.out wd W1 hb1)
  have HB1 := hide (bstep HB0.out hb1)
  have HY := hide (box9 ((hb1.block _ (box_lt HG0.out)).trans HG0.out))
  have HG1 := hide g1
  have HW1 := hide hW1
  clear hb1 g1 hW1 HTY
  go_enter Tryz.func30, Tryz.ntmps30
  go_upto_region 1 with (fail)
  rw [HW0.out]
  have T44 : (kind == 44) = false := beq_eq_false_iff_ne.2 (by omega)
  go_upto_region 6 with (fail)
  rw [HW1.out]
  obtain ⟨x0, x1, x2, x3, x4, x5, x6, x7, x8⟩ := box9 HG1.out
  clear y0 y1 y2 y3 y4 y5 y6 y7 y8 c0 c1 c2 c3 c4 c5 c6 c7 c8
  obtain ⟨y0, y1, y2, y3, y4, y5, y6, y7, y8⟩ := HY.out
  have hkk : kind = 37 ∨ kind = 38 ∨ kind = 39 ∨ kind = 40 ∨ kind = 41 := by omega
  clear hk T44
  rcases hkk with rfl | rfl | rfl | rfl | rfl
  · go_wp2_with fail
    refine (HT1.out 1).mono ?_
    rintro e w2 ⟨rfl, hb2⟩
    have HB2 := hide (bstep HB1.out hb2)
    clear hb2
    go_wp2_with fail
    go_ret
    exact ⟨rfl, HB2.out⟩
  · go_wp2_with fail
    refine (HT1.out 1).mono ?_
    rintro e w2 ⟨rfl, hb2⟩
    have HB2 := hide (bstep HB1.out hb2)
    clear hb2
    go_wp2_with fail
    go_ret
    exact ⟨rfl, HB2.out⟩
  · go_wp2_with fail
    refine (HT1.out 1).mono ?_
    rintro e w2 ⟨rfl, hb2⟩
    have HB2 := hide (bstep HB1.out hb2)
    clear hb2
    go_wp2_with fail
    go_ret
    exact ⟨rfl, HB2.out⟩
  · go_wp2_with fail
    refine (HT1.out 1).mono ?_
    rintro e w2 ⟨rfl, hb2⟩
    have HB2 := hide (bstep HB1.out hb2)
    clear hb2
    go_wp2_with fail
    go_ret
    exact ⟨rfl, HB2.out⟩
  · go_wp2_with fail
    refine (HT1.out 0).mono ?_
    rintro e w2 ⟨rfl, hb2⟩
    have HB2 := hide (bstep HB1.out hb2)
    clear hb2
    go_wp2_with fail
    go_ret
    exact ⟨rfl, HB2.out⟩

end Go.Proofs.YtbhcmnfeeogdhaaGreatDoor

/-
  qcheck.Horizon at a value and at an event of the kinds without conditions.
-/
namespace Go.Proofs.YtbhcmnfeeogdhaaGreatDoor
open Go.RowKit

theorem widths_all : ∀ {l : List (Option (Int × Int))} {ws : List Int}, widthsF l = some ws → ∀ x ∈ l, ∃ q, x = some q
  | [], _, _, x, hx => by cases hx
  | none :: l, _, h, _, _ => by cases h
  | some (k, w) :: l, ws, h, x, hx => by
    rw [widthsF] at h
    by_cases hk : k = 0
    · rw [if_pos hk] at h
      cases hl : widthsF l with
      | none => rw [hl] at h; cases h
      | some vs =>
        rcases List.mem_cons.1 hx with rfl | hx
        · exact ⟨_, rfl⟩
        · exact widths_all hl x hx
    · rw [if_neg hk] at h; cases h
theorem typ_parts {kind at_ : Int} {name value : ByteArray} {a b c d : Int} {KA : Option Addr} {kc : Nat} {kids : List Nd} {p : Int × Int} (h : typeF (.mk kind at_ name value a b c d KA kc kids) = some p) : (1 ≤ kind ∧ kind ≤ 16) ∧ ∀ k ∈ kids, ∃ q, typeF k = some q := by
  rw [typeF_mk] at h
  have leaf : ∀ {x : Option (Int × Int)}, (if kids ≠ [] then none else x) = some p → ∀ k ∈ kids, ∃ q, typeF k = some q := fun h k hk => by
    by_cases hn : kids = []
    · rw [hn] at hk; cases hk
    · rw [if_pos hn] at h; cases h
  by_cases k1 : kind = 1
  · rw [if_pos k1] at h; exact ⟨by omega, leaf h⟩
  rw [if_neg k1] at h
  by_cases k2 : kind = 2
  · rw [if_pos k2] at h; exact ⟨by omega, leaf h⟩
  rw [if_neg k2] at h
  by_cases k4 : kind = 4
  · rw [if_pos k4] at h; exact ⟨by omega, leaf h⟩
  rw [if_neg k4] at h
  by_cases k5 : kind = 5
  · rw [if_pos k5] at h; exact ⟨by omega, leaf h⟩
  rw [if_neg k5] at h
  cases hw : widthsF (kids.map typeF) with
  | none => rw [hw] at h; cases h
  | some ws =>
    rw [hw] at h
    dsimp only at h
    by_cases hk : 1 ≤ kind ∧ kind ≤ 16
    · exact ⟨hk, fun k hm => widths_all hw _ (List.mem_map.2 ⟨k, hm, rfl⟩)⟩
    · rw [if_neg hk] at h; cases h
def HzRel (m : Nat) (w : World) (p f i : Value) (wr : World) : Prop := p = .int .i64 0 ∧ f = .int .i64 0 ∧ ∃ j : Nat, j ≤ m ∧ i = .int .i64 (j : Int) ∧ Below w.heap.size w wr
def HzC (o : Int) (n : Nd) : Prop := ∀ w : World, TreesAt w (Lo w.heap.size) n.KA n.kids → Calls Tryz.prog 31 #[.agg (cNd n).toArray] w (RetV (.tuple #[.int .i64 o, .int .i64 0]) w)

set_option maxRecDepth 100000 in
set_option maxHeartbeats 8000000 in
theorem hz_step (n : Nd) (o : Int) (hk : (1 ≤ n.kind ∧ n.kind ≤ 16 ∧ o = 0) ∨ (37 ≤ n.kind ∧ n.kind ≤ 41 ∧ o = 1)) (ih : ∀ k ∈ n.kids, HzC 0 k) : HzC o n := by
  intro w ht
  have IH := hide ih
  clear ih
  obtain ⟨kind, at_, name, value, a, b, c, d, KA, kc, kids⟩ := n
  unfold Nd.KA Nd.kids at ht
  dsimp only [Nd.kind, Nd.kids] at hk IH
  unfold cNd
  have hl := ht.len
  obtain ⟨W0, hW0⟩ : ∃ W0, w.alloc (.cells #[.int .i64 kind, .int .i64 at_, .string name, .string value, .int .i64 a, .int .i64 b, .int .i64 c, .int .i64 d, .slice KA kids.length kc] 30) = W0 := ⟨_, rfl⟩
  have g0 := new_at hW0
  have hb0 : Below w.heap.size w W0 := by rw [← hW0]; exact (Below.refl _ _).alloc (Nat.le_refl _) _
  have HT := hide (ht.grow hb0)
  have HG0 := hide g0
  have HB0 := hide hb0
  have HW0 := hide hW0
  obtain ⟨y0, y1, y2, y3, y4, y5, y6, y7, y8⟩ := box9 g0
  clear ht g0 hb0 hW0
  go_enter Tryz.func31, Tryz.ntmps31
  go_upto_region 1 with (fail)
  rw [HW0.out]
  go_upto_region 3 with (fail)
  go_loopw [4, 5, 13] (fun p f i wr => HzRel kids.length W0 p f i wr) (fun _ _ i _ => kids.length - (intOf i).toNat)
  case atStart => exact ⟨rfl, rfl, 0, Nat.zero_le _, rfl, Below.refl _ _⟩
  case round =>
    obtain ⟨V, rfl⟩ : ∃ w2 : World, w2 = wr := ⟨_, rfl⟩
    obtain ⟨rfl, rfl, j, hj, rfl, hbr⟩ := hrel
    have HBR := hide hbr
    clear hbr y0 y1 y2 y3 y4 y5 y6 y7 y8
    obtain ⟨y0, y1, y2, y3, y4, y5, y6, y7, y8⟩ := box9 ((HBR.out.block _ (box_lt HG0.out)).trans HG0.out)
    by_cases hlt : j < kids.length
    · have hT := HT.out.grow HBR.out
      obtain ⟨bk, ok, rfl, hbk, hc⟩ := hT.row.at_ hlt
      have hmem := List.getElem_mem hlt
      have hkid := hT.each _ hmem
      have hIH := IH.out _ hmem
      generalize kids[j] = q at *
      obtain ⟨W1, hW1⟩ : ∃ W1, V.alloc (.cells (cNd q).toArray 30) = W1 := ⟨_, rfl⟩
      have g1 := new_at hW1
      have hb1 : Below V.heap.size V W1 := by rw [← hW1]; exact (Below.refl _ _).alloc (Nat.le_refl _) _
      have hcall := hIH W1 (hkid.grow hb1)
      obtain ⟨m1, m2, m3, m4, m5, m6, m7, m8, mK, mc, ml⟩ := q
      unfold cNd at hc hcall hW1 g1
      obtain ⟨c0, c1, c2, c3, c4, c5, c6, c7, c8⟩ := nine hc
      have HCALL := hide hcall
      have HW1 := hide hW1
      have HB1 := hide (bstep HBR.out hb1)
      clear hc hkid hcall hW1 hb1 hmem hT hIH
      go_upto_region 5 with (fail)
      rw [HW1.out]
      clear HW1 c0 c1 c2 c3 c4 c5 c6 c7 c8
      obtain ⟨x0, x1, x2, x3, x4, x5, x6, x7, x8⟩ := box9 g1
      clear g1
      go_wp2_with (go_at_call 31; refine HCALL.out.mono ?_; rintro e w2 ⟨rfl, hb2⟩; have HB2 := hide (bstep HB1.out hb2); clear hb2)
      exact ⟨⟨rfl, rfl, j + 1, hlt, by go_num, HB2.out⟩, by simp [intOf]; omega⟩
    · have HR := hide (bstep HB0.out HBR.out)
      rcases hk with ⟨k1, k2, rfl⟩ | ⟨k1, k2, rfl⟩
      · have t1 : (kind == 31) = false := beq_eq_false_iff_ne.2 (by omega)
        have t2 : (kind == 32) = false := beq_eq_false_iff_ne.2 (by omega)
        have t3 : (kind == 33) = false := beq_eq_false_iff_ne.2 (by omega)
        have t4 : (kind == 34) = false := beq_eq_false_iff_ne.2 (by omega)
        have t5 : (kind == 35) = false := beq_eq_false_iff_ne.2 (by omega)
        have t6 : (kind == 36) = false := beq_eq_false_iff_ne.2 (by omega)
        have t7 : (kind == 37) = false := beq_eq_false_iff_ne.2 (by omega)
        have t8 : (kind == 38) = false := beq_eq_false_iff_ne.2 (by omega)
        have t9 : (kind == 39) = false := beq_eq_false_iff_ne.2 (by omega)
        have t10 : (kind == 40) = false := beq_eq_false_iff_ne.2 (by omega)
        have t11 : (kind == 41) = false := beq_eq_false_iff_ne.2 (by omega)
        have t12 : (kind == 43) = false := beq_eq_false_iff_ne.2 (by omega)
        have t13 : (kind == 45) = false := beq_eq_false_iff_ne.2 (by omega)
        have t14 : (kind == 46) = false := beq_eq_false_iff_ne.2 (by omega)
        have t15 : (kind == 47) = false := beq_eq_false_iff_ne.2 (by omega)
        clear k1 k2
        go_wp2_with fail
        go_ret2
        exact ⟨rfl, HR.out⟩
      · have hkk : kind = 37 ∨ kind = 38 ∨ kind = 39 ∨ kind = 40 ∨ kind = 41 := by omega
        clear k1 k2
        rcases hkk with rfl | rfl | rfl | rfl | rfl
        all_goals
          go_wp2_with fail
          go_ret2
          exact ⟨rfl, HR.out⟩
theorem hz_val (n : Nd) : (∃ p, typeF n = some p) → HzC 0 n := by
  induction n using Nd.ind with
  | h n ih =>
  rintro ⟨p, hp⟩
  obtain ⟨kind, at_, name, value, a, b, c, d, KA, kc, kids⟩ := n
  obtain ⟨h1, h2⟩ := typ_parts hp
  exact hz_step _ 0 (.inl ⟨h1.1, h1.2, rfl⟩) fun k hk => ih k hk (h2 k hk)
theorem hz_event (n : Nd) (hk : 37 ≤ n.kind ∧ n.kind ≤ 41) (h : ∀ k ∈ n.kids, ∃ p, typeF k = some p) : HzC 1 n := hz_step n 1 (.inr ⟨hk.1, hk.2, rfl⟩) fun k hm => hz_val k (h k hm)

end Go.Proofs.YtbhcmnfeeogdhaaGreatDoor

/-
  event.Times at an event of the kinds without conditions, where all signals fit and the source has no limit.
-/
namespace Go.Proofs.YtbhcmnfeeogdhaaGreatDoor
open Go.RowKit

set_option maxRecDepth 100000 in
set_option maxHeartbeats 8000000 in
theorem times_simple (v : Wv) (c : Int) (M : Nat) (kind at_ : Int) (name value : ByteArray) (a b c0 d : Int) (KA : Option Addr) (kc : Nat) (x : Nd) (f t : Int) (w : World) (h : SourceAt w M v (-1) c) (hv : SmallOk v) (ht : TreesAt w (Un M w.heap.size) KA [x]) (hok : okF (.mk kind at_ name value a b c0 d KA kc [x])) (hokx : okF x) (hf60 : FewOk 60 x)
    (h60 : nodesF (.mk kind at_ name value a b c0 d KA kc [x]) ≤ 60) (hev : ∀ y ∈ sigF (.mk kind at_ name value a b c0 d KA kc [x]), ∀ k e, agrF y k e (.mk kind at_ name value a b c0 d KA kc [x]) = true → k ≠ 3) (hfn : ∀ y ∈ sigF (.mk kind at_ name value a b c0 d KA kc [x]), sigE v (.mk kind at_ name value a b c0 d KA kc [x]) y = 0)
    (h0 : 0 ≤ c) (h1 : c ≤ 50000) (hp : ∃ p, typeF x = some p) (htyp : typB (typeF x) (if kind = 41 then 0 else 1) = true) (hfit : ∀ y ∈ sigF x, sigE v x y = 0) (hk : 37 ≤ kind ∧ kind ≤ 41) (hf : 0 ≤ f) (hft : f ≤ t) (htf : t ≤ v.fin) :
    Calls Tryz.prog 12 #[srcV M, .agg #[.int .i64 kind, .int .i64 at_, .string name, .string value, .int .i64 a, .int .i64 b, .int .i64 c0, .int .i64 d, .slice KA 1 kc], .int .i64 f, .int .i64 t] w (EcPost v x kind f t M w) := by
  have hM := h.lt
  have hfin := hv.fin.2
  obtain ⟨W0, hW0⟩ : ∃ W0, w.alloc (.cells #[.int .i64 kind, .int .i64 at_, .string name, .string value, .int .i64 a, .int .i64 b, .int .i64 c0, .int .i64 d, .slice KA 1 kc] 30) = W0 := ⟨_, rfl⟩
  have g0 := new_at hW0
  have hb0 : Below w.heap.size w W0 := by rw [← hW0]; exact (Below.refl _ _).alloc (Nat.le_refl _) _
  have hl0 := box_lt g0
  have HY := hide (fun (W : World) (hb : W.heap[w.heap.size]? = W0.heap[w.heap.size]?) => box9 (hb.trans g0))
  have HEND := hide (fun (W : World) (c' : Int) (hs : SrcTo w M v (-1) c' W) => end_any M v (-1) c' W hs.1)
  have HIE := hide (fun (W : World) (c' : Int) (hs : SrcTo w M v (-1) c' W) => isev_simple kind at_ name value a b c0 d KA kc x W ((tree_src ht hs).more fun _ => un_lo) hk)
  rw [htyp] at HIE
  have HHZ := hide (fun (W : World) (c' : Int) (hs : SrcTo w M v (-1) c' W) => hz_event (.mk kind at_ name value a b c0 d KA kc [x]) hk (fun k hm => by simp [Nd.kids] at hm; subst hm; exact hp) W ((tree_src ht hs).more fun _ => un_lo))
  have HRD := hide (fun (p q : Int) (hp : 0 ≤ p) (hq : p ≤ q) (hr : q ≤ v.fin) (W : World) (hs : SrcTo w M v (-1) c W) => eread_ok v c M (.mk kind at_ name value a b c0 d KA kc [x]) p q W hs.1 hv (tree_src ht hs) hok h60 hev h0 h1 hp hq hr hfn)
  have HFD := hide (fun (W : World) (c' : Int) (hs : SrcTo w M v (-1) c' W) (q0 : 0 ≤ c') (q1 : c' ≤ 100000) => find_simple v c' M kind at_ name value a b c0 d KA kc x f t W hs.1 hv (tree_src ht hs) hokx hf60 q0 q1 hp hfit hk hf hft htf)
  have HS0 := hide (SrcTo.start h hb0)
  have HW0 := hide hW0
  have HB0 := hide hb0
  clear hW0 g0 ht h hok hokx hf60 h60 hev hfn hp htyp hfit hk
  unfold cNd at HHZ HRD
  dsimp only at HHZ HRD
  unfold srcV at HRD HFD ⊢
  have hm := meth_end (some ⟨M, 0, none⟩)
  have hw1 : IntKind.i64.wrap (f - 1) = f - 1 := by rw [IntWalk.i64_in _ (by omega)]
  have hw2 : IntKind.i64.wrap t = t := by rw [IntWalk.i64_in _ (by omega)]
  have T1 : decide (f < 0) = false := decide_eq_false (by omega)
  have T2 : decide (t < f) = false := decide_eq_false (by omega)
  have T3 : decide (v.fin < t) = false := decide_eq_false (by omega)
  go_enter Tryz.func12, Tryz.ntmps12
  go_upto_region 1 with (fail)
  rw [HW0.out]
  go_upto_region 3 with (go_at_call 319; refine (HEND.out W0 _ HS0.out).mono ?_; rintro e w1 ⟨rfl, rfl⟩)
  obtain ⟨y0, y1, y2, y3, y4, y5, y6, y7, y8⟩ := HY.out W0 rfl
  go_upto_region 5 with (go_at_call 30; refine (HIE.out W0 _ HS0.out).mono ?_; rintro e w2 ⟨rfl, hb2⟩; have HB2 := hide hb2; clear hb2)
  clear y0 y1 y2 y3 y4 y5 y6 y7 y8
  have HS2 := hide (HS0.out.below HB2.out)
  obtain ⟨y0, y1, y2, y3, y4, y5, y6, y7, y8⟩ := HY.out w2 (HB2.out.block _ hl0)
  go_upto_region 6 with (go_at_call 31; refine (HHZ.out w2 _ HS2.out).mono ?_; rintro e w3 ⟨rfl, hb3⟩; have HB3 := hide (bstep HB2.out hb3); have HS3 := hide (HS2.out.below hb3); clear hb3)
  clear y0 y1 y2 y3 y4 y5 y6 y7 y8
  obtain ⟨y0, y1, y2, y3, y4, y5, y6, y7, y8⟩ := HY.out w3 (HB3.out.block _ hl0)
  have HSD := hide (HS3.out.below (below_drew (Below.refl _ _)))
  go_region_law
    (first
      | (go_simp
         go_at_call 319
         refine (HEND.out w3.drew _ HSD.out).mono ?_
         rintro e w4 ⟨rfl, rfl⟩)
      | (go_simp
         go_at_call 32
         refine (HRD.out _ _ (by omega) (by omega) (by omega) _ HSD.out).mono ?_
         rintro e w5 ⟨rfl, c5, q0, q1, hs5⟩
         have HS5 := hide (HSD.out.trans hs5)
         have HN5 := hide (HY.out w5 ((hs5.2.block _ (by have := HB3.out.size; have : w3.drew.heap.size = w3.heap.size := rfl; omega) (fun e => by injection e with e; omega)).trans (HB3.out.block _ hl0)))
         clear hs5)
      | fail)
  all_goals
    clear y0 y1 y2 y3 y4 y5 y6 y7 y8
    obtain ⟨y0, y1, y2, y3, y4, y5, y6, y7, y8⟩ := HN5.out
    go_wp2_with fail
    refine (HFD.out w5 _ HS5.out q0 (by omega)).mono ?_
    rintro e w6 ⟨l, B, cb, e1, e2, rfl, e3, c', e4⟩
    have hzl := chgT_len kind f l (l.length - 1)
    have HE1 := hide (show EcPost v x kind f t M w (.returned (.tuple #[.slice B (chgT kind f l (l.length - 1)).length cb, .int .i64 0])) w6 from ⟨l, B, cb, e1, e2, rfl, e3.lower HS5.out.2.size, c', HS5.out.trans e4⟩)
    have T9 : decide ((4096 : Int) < ((chgT kind f l (l.length - 1)).length : Int)) = false := decide_eq_false (by omega)
    clear e1 e3 e4
    go_wp2_with fail
    go_ret2
    exact HE1.out

end Go.Proofs.YtbhcmnfeeogdhaaGreatDoor

/-
  The example of the chapter on events: its wave, in plain Lean.
-/
namespace Go.Proofs.YtbhcmnfeeogdhaaGreatDoor
open Go.RowKit

def awChs : List Chg := [⟨2, ⟨#[48]⟩⟩, ⟨5, ⟨#[49]⟩⟩, ⟨8, ⟨#[122]⟩⟩]
def awSg (A : Option Addr) (c : Nat) : Sgn := ⟨0, 1, A, c, awChs⟩
def awWv (A : Option Addr) (c : Nat) (S : Option Addr) (sc : Nat) : Wv := ⟨S, sc, [awSg A c], none, 0, 0, 9⟩
def awSp : List Spn := [⟨0, 1, ⟨#[120]⟩⟩, ⟨2, 4, ⟨#[48]⟩⟩, ⟨5, 7, ⟨#[49]⟩⟩, ⟨8, 9, ⟨#[122]⟩⟩]
theorem aw_val (A : Option Addr) (c : Nat) (t : Int) : valS (awSg A c) t = if 8 ≤ t then ⟨#[122]⟩ else if 5 ≤ t then ⟨#[49]⟩ else if 2 ≤ t then ⟨#[48]⟩ else ⟨#[120]⟩ := rfl
theorem aw_spans (A : Option Addr) (c : Nat) : Spans (valS (awSg A c)) 0 9 awSp := by
  refine ⟨rfl, by decide, fun t h1 h2 => ?_, by decide, rfl, by decide, fun t h1 h2 => ?_, by decide, rfl, by decide, fun t h1 h2 => ?_, by decide, rfl, rfl, by decide, fun t h1 h2 => ?_⟩
  all_goals
    dsimp only [awSp] at h1 h2
    rw [aw_val]
  · rw [if_neg (by omega), if_neg (by omega), if_neg (by omega)]
  · rw [if_neg (by omega), if_neg (by omega), if_pos (by omega)]
  · rw [if_neg (by omega), if_pos (by omega)]
  · rw [if_pos (by omega)]
def awX : Nd := .mk 1 0 ⟨#[]⟩ ⟨#[]⟩ 0 1 0 0 none 0 []
theorem aw_type : typeF awX = some (0, 1) := by
  unfold awX
  rw [typeF_mk]
  rfl
theorem aw_small (A : Option Addr) (c : Nat) (S : Option Addr) (sc : Nat) : SmallOk (awWv A c S sc) := by
  refine ⟨by simp [awWv], by simp [awWv], fun s hs => ?_⟩
  simp only [awWv, List.mem_singleton] at hs
  subst hs
  refine ⟨by simp [awSg], by simp [awSg], by simp [awSg, awChs], ?_, fun x hx => ?_⟩
  · show awChs.Pairwise fun a b => a.time < b.time
    unfold awChs
    decide
  · simp only [awSg, awChs, List.mem_cons, List.not_mem_nil, or_false] at hx
    rcases hx with rfl | rfl | rfl
    all_goals exact ⟨by simp, by simp [awWv], fun _ => ⟨rfl, rfl⟩, by decide⟩
theorem aw_ok : okF awX := by
  rw [okF_eq]
  exact ⟨by simp [awX, I64, Nd.kind, Nd.a, Nd.b, Nd.c, Nd.d], fun k hk => by cases hk⟩
theorem aw_few : FewOk 60 awX := by
  rw [FewOk_eq]
  have h1 : nodesF awX = 1 := by
    unfold nodesF
    rw [Nd.fold_eq]
    rfl
  exact ⟨by decide, by decide, by omega, fun k hk => by cases hk⟩
theorem aw_sigs : sigF awX = [0] := by
  rw [sigF_eq]
  rfl
def awN (kind : Int) (KA : Option Addr) (kc : Nat) : Nd := .mk kind 0 ⟨#[]⟩ ⟨#[]⟩ 0 0 0 0 KA kc [awX]
theorem aw_nok (kind : Int) (hk : 37 ≤ kind ∧ kind ≤ 41) (KA : Option Addr) (kc : Nat) : okF (awN kind KA kc) := by
  rw [okF_eq]
  refine ⟨?_, fun k h => ?_⟩
  · simp only [awN, Nd.kind, Nd.a, Nd.b, Nd.c, Nd.d, I64]
    omega
  · simp only [awN, Nd.kids, List.mem_singleton] at h
    subst h
    exact aw_ok
theorem aw_nsigs (kind : Int) (hk : 37 ≤ kind ∧ kind ≤ 41) (KA : Option Addr) (kc : Nat) : sigF (awN kind KA kc) = [0] := by
  have hn : ¬ (awN kind KA kc).kind = 1 := by show ¬ kind = 1; omega
  have hm : (awN kind KA kc).kids.map sigF = [[0]] := by show [sigF awX] = _; rw [aw_sigs]
  rw [sigF_eq, hm]
  unfold sigB
  rw [if_neg hn]
  rfl
theorem aw_agr : agrF 0 0 1 awX = true := by
  rw [agrF_eq]
  rfl
theorem aw_nagr (kind : Int) (hk : 37 ≤ kind ∧ kind ≤ 41) (KA : Option Addr) (kc : Nat) (x k w : Int) : agrF x k w (awN kind KA kc) = agrF x k w awX := by
  unfold awN
  rw [agrF_mk, decide_eq_false (show ¬ kind = 1 by omega)]
  simp
theorem aw_nodes (kind : Int) (KA : Option Addr) (kc : Nat) : nodesF (awN kind KA kc) ≤ 60 := by
  have h1 : nodesF awX = 1 := by
    unfold nodesF
    rw [Nd.fold_eq]
    rfl
  have h2 : nodesF (awN kind KA kc) = 2 := by
    unfold nodesF
    rw [Nd.fold_eq]
    show 1 + sumF [nodesF awX] = 2
    rw [h1]
    rfl
  omega
theorem aw_fit (A : Option Addr) (c : Nat) (S : Option Addr) (sc : Nat) : ∀ y ∈ sigF awX, sigE (awWv A c S sc) awX y = 0 := by
  intro y hy
  rw [aw_sigs, List.mem_singleton] at hy
  subst hy
  unfold sigE
  rw [if_neg (by simp [awWv]), show sgnAt (awWv A c S sc) 0 = awSg A c from rfl]
  show (if agrF 0 0 1 awX then (0 : Int) else 7) = 0
  rw [aw_agr]
  rfl
theorem aw_nfit (kind : Int) (hk : 37 ≤ kind ∧ kind ≤ 41) (KA : Option Addr) (kc : Nat) (A : Option Addr) (c : Nat) (S : Option Addr) (sc : Nat) : ∀ y ∈ sigF (awN kind KA kc), sigE (awWv A c S sc) (awN kind KA kc) y = 0 := by
  intro y hy
  have h := aw_fit A c S sc y (by rw [aw_nsigs kind hk] at hy; rw [aw_sigs]; exact hy)
  unfold sigE at h ⊢
  rw [aw_nagr kind hk]
  exact h
theorem aw_nev (kind : Int) (hk : 37 ≤ kind ∧ kind ≤ 41) (KA : Option Addr) (kc : Nat) : ∀ y ∈ sigF (awN kind KA kc), ∀ k e, agrF y k e (awN kind KA kc) = true → k ≠ 3 := by
  intro y hy k e h
  rw [aw_nsigs kind hk, List.mem_singleton] at hy
  subst hy
  rw [aw_nagr kind hk] at h
  unfold awX at h
  rw [agrF_mk] at h
  rintro rfl
  simp at h

end Go.Proofs.YtbhcmnfeeogdhaaGreatDoor
