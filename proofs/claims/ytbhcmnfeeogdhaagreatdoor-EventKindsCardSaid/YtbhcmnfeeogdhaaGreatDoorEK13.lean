/-
  Several texts in one: CRows, QOper, QWid. Each says at its head what it holds.
-/
import Derived.Test.YtbhcmnfeeogdhaaGreatDoorEK12
import Derived.Test.YtbhcmnfeeogdhaaGreatDoorEK2
import Derived.Test.YtbhcmnfeeogdhaaGreatDoorEK7
import Derived.Deep.DeepCutAuto
import Derived.Deep.QuietTactic
import Derived.BigQuiet
import Derived.IntWalk

/-
  condition.rows: the rows of the signals of a tree in a range.
-/
namespace Go.Proofs.YtbhcmnfeeogdhaaGreatDoor
open Go.RowKit

def RowsPost (v : Wv) (n : Nd) (L c : Int) (M : Nat) (f t : Int) (w : World) (e : Ending) (w' : World) : Prop :=
  ∃ zs : List Int, zs.Nodup ∧ (∀ x ∈ zs, I64 x) ∧ (∀ x, I64 x → (x ∈ zs ↔ x ∈ sigF n)) ∧ zs.Pairwise (· ≤ ·) ∧
  ((fitE v n zs ≠ 0 ∧ L < 0 ∧ e = .returned (.tuple #[.slice none 0 0, .slice none 0 0, .int .i64 (fitE v n zs)]) ∧ ∃ c', SrcTo w M v L c' w') ∨
   (fitE v n zs = 0 ∧ (L < 0 ∨ c + allC v f t zs ≤ L) ∧ ∃ (RA : Option Addr) (rc : Nat) (rows : List RwM) (ZA : Option Addr) (zc : Nat), e = .returned (.tuple #[.slice RA rows.length rc, .slice ZA zs.length zc, .int .i64 0]) ∧ RwsAt w' (fun b => w.heap.size ≤ b ∧ b < w'.heap.size) RA rows ∧ IntsAt w' w'.heap.size ZA zs ∧ Cov (zs.map (gOf v)) f (t + 1) (rows.map RwM.rw) ∧ rows ≠ [] ∧ rows.length ≤ 4001 ∧ SrcTo w M v L (c + allC v f t zs) w') ∨
   (fitE v n zs = 0 ∧ 0 ≤ L ∧ L < c + allC v f t zs ∧ e = .returned (.tuple #[.slice none 0 0, .slice none 0 0, .int .i64 14]) ∧ ∃ c', SrcTo w M v L c' w'))
theorem allC_le {v : Wv} {f t : Int} : ∀ {zs : List Int}, (∀ x ∈ zs, oneC v f t x ≤ 24) → allC v f t zs ≤ 24 * zs.length
  | [], _ => by simp [allC]
  | z :: zs, h => by
    rw [allC_cons, List.length_cons]
    have := allC_le (zs := zs) fun x hx => h x (by simp [hx])
    have := h z (by simp)
    omega
theorem oneC_fit {v : Wv} (hv : SmallOk v) {n : Nd} {f t x : Int} (h : sigE v n x = 0) : oneC v f t x ≤ 24 := by
  obtain ⟨h1, h2, _⟩ := sigE_zero h
  obtain ⟨_, hm⟩ := sgn_mem h1 h2
  have := (hv.each _ hm).len
  have := beh_len (sgnAt v x).chs f t
  unfold oneC
  omega
theorem take_at {α : Type} {zs : List α} {j : Nat} {x : α} (h : zs[j]? = some x) : zs = zs.take j ++ x :: zs.drop (j + 1) := by
  have hlt := (List.getElem?_eq_some_iff.1 h).1
  have hx := (List.getElem?_eq_some_iff.1 h).2
  rw [← hx, ← List.drop_eq_getElem_cons hlt, List.take_append_drop]
def RLRel (v : Wv) (n : Nd) (L c : Int) (M : Nat) (f t : Int) (zs : List Int) (w : World) (N : Nat) (o : Obj) (zb : Nat) (ZA : Option Addr) (zc : Nat) (ls_ i : Value) (wr : World) : Prop :=
  ∃ (j : Nat) (A : Option Addr) (cc : Nat) (ls : List SpL), j ≤ zs.length ∧ i = .int .i64 (j : Int) ∧ ls_ = .slice A ls.length cc ∧ (∀ x ∈ zs.take j, sigE v n x = 0) ∧ (L < 0 ∨ c + allC v f t (zs.take j) ≤ L) ∧ RS w M v L c f t zs j A cc ls wr ∧ wr.heap[N]? = some o ∧ OwnInt wr zb ZA zc zs

set_option maxRecDepth 100000 in
set_option maxHeartbeats 8000000 in
theorem rows_any (v : Wv) (L c : Int) (M : Nat) (n : Nd) (f t : Int) (w : World) (h : SourceAt w M v L c) (hv : SmallOk v) (ht : TreesAt w (Un M w.heap.size) n.KA n.kids) (hok : okF n) (h60 : nodesF n ≤ 60) (hev : ∀ x ∈ sigF n, ∀ k d, agrF x k d n = true → k ≠ 3)
    (h0 : 0 ≤ c) (h1 : c ≤ 100000) (hL : L < 0 ∨ c ≤ L) (hf : 0 ≤ f) (hft : f ≤ t) (htf : t ≤ v.fin) (hfit : 0 ≤ L → ∀ zs, (∀ x ∈ zs, I64 x) → (∀ x, I64 x → (x ∈ zs ↔ x ∈ sigF n)) → fitE v n zs = 0) :
    Calls Tryz.prog 48 #[srcV M, .agg (cNd n).toArray, .int .i64 f, .int .i64 t] w (RowsPost v n L c M f t w) := by
  obtain ⟨i0, hi0, hz0, hz1, hz2⟩ := info_parts infoSls
  have hsn := sig_nodes n
  have hsl : (sigF n).length ≤ 1000000 := by omega
  have HSIG := hide (fun (W : World) (h2 : TreesAt W (Lo W.heap.size) n.KA n.kids) => signals2_any n W h2 hok hsl)
  have HAGR := hide (fun (x k d : Int) => agrees_any x k d n)
  obtain ⟨n', hn'⟩ : ∃ n', n' = n := ⟨_, rfl⟩
  rw [show RowsPost v n L c M f t w = RowsPost v n' L c M f t w by rw [hn']]
  have HEV := hide (show ∀ x ∈ sigF n', ∀ k d, agrF x k d n' = true → k ≠ 3 by rw [hn']; exact hev)
  have HFIT := hide (show 0 ≤ L → ∀ zs, (∀ x ∈ zs, I64 x) → (∀ x, I64 x → (x ∈ zs ↔ x ∈ sigF n')) → fitE v n' zs = 0 by rw [hn']; exact hfit)
  have HSIG2 := hide (show ∀ (W : World) (h2 : TreesAt W (Lo W.heap.size) n.KA n.kids), Calls Tryz.prog 66 #[.agg (cNd n).toArray] W (SigsPost2 n' W) by rw [hn']; exact HSIG.out)
  have HAGR2 := hide (show ∀ (x k d : Int) (W : World), TreesAt W (Lo W.heap.size) n.KA n.kids → Calls Tryz.prog 94 #[.agg (cNd n).toArray, .int .i64 x, .int .i64 k, .int .i64 d] W (RetV (.bool (agrF x k d n')) W) by rw [hn']; exact fun x k d => HAGR.out x k d)
  clear HSIG HAGR hn' hev hfit hsn hsl h60 hok
  have hM := h.lt
  obtain ⟨kind, at_, name, value, a, b, c0, d, KA, kc, kids⟩ := n
  unfold Nd.KA Nd.kids at ht HSIG2 HAGR2
  unfold cNd at HSIG2 HAGR2 ⊢
  dsimp only at HSIG2 HAGR2
  obtain ⟨W0, hW0⟩ : ∃ W0, w.alloc (.cells #[.int .i64 kind, .int .i64 at_, .string name, .string value, .int .i64 a, .int .i64 b, .int .i64 c0, .int .i64 d, .slice KA kids.length kc] 30) = W0 := ⟨_, rfl⟩
  have g0 := new_at hW0
  have hb0 : Below w.heap.size w W0 := by rw [← hW0]; exact (Below.refl _ _).alloc (Nat.le_refl _) _
  have HT := hide (tree_below ht hb0)
  have HTW := hide ht
  have HS0 := hide (SrcTo.start h hb0)
  have HG0 := hide g0
  have HB0 := hide hb0
  have HW0 := hide hW0
  have HSC := hide (HSIG2.out W0 (HT.out.more fun _ => un_lo))
  obtain ⟨y0, y1, y2, y3, y4, y5, y6, y7, y8⟩ := box9 g0
  have hz0w : w.heap.size < W0.heap.size := box_lt g0
  clear ht g0 hb0 hW0 h HSIG2
  unfold srcV
  have hmk := meth_kind (some ⟨M, 0, none⟩)
  go_enter Tryz.func48, Tryz.ntmps48
  go_upto_region 1 with (fail)
  rw [HW0.out]
  go_upto_region 4 with (go_at_call 66; refine HSC.out.mono ?_; rintro e w1 ⟨ZA, zc, zs, rfl, hzi, hzl, hzp, hzm, hzb, hzn, hzI, zb, hzb2, hzo⟩; have HZ := hide (And.intro hzp (And.intro hzm (And.intro hzn hzI))); have HZB := hide hzb; have HZO := hide hzo; clear hzi hzp hzm hzn hzI hzb hzo)
  have hzs := HZB.out.size
  have HS1 := hide (HS0.out.below HZB.out)
  have HG1 := hide ((HZB.out.block _ hz0w).trans HG0.out)
  clear y0 y1 y2 y3 y4 y5 y6 y7 y8
  go_loopw [12, 25] (fun ls_ i wr => RLRel v n' L c M f t zs w w.heap.size (.cells #[.int .i64 kind, .int .i64 at_, .string name, .string value, .int .i64 a, .int .i64 b, .int .i64 c0, .int .i64 d, .slice KA kids.length kc] 30 (0, 0)) zb ZA zc ls_ i wr) (fun _ i _ => zs.length - (intOf i).toNat)
  case atStart =>
    refine ⟨0, none, 0, [], Nat.zero_le _, rfl, rfl, (fun x hx => by simp at hx), ?_, ⟨?_, rfl, trivial, World.ownsRow_nil _ _ _ _, (fun s hs => by cases hs), (fun s hs => by cases hs)⟩, HG1.out, HZO.out⟩
    · have : allC v f t [] = 0 := rfl
      rw [List.take_zero, this]; omega
    · have := HS1.out
      simpa [allC] using this
  case round =>
    obtain ⟨W, rfl⟩ : ∃ w2 : World, w2 = wr := ⟨_, rfl⟩
    obtain ⟨j, A, cc, ls, hj, rfl, rfl, hpre, hroom, hrs, hbx, hzo⟩ := hrel
    have hj8 : j ≤ 8 := by
      have := nodup_few v.sigs.length (zs := zs.take j) (HZ.out.2.2.1.sublist (List.take_sublist _ _)) (fun x hx => ⟨(sigE_zero (hpre x hx)).1, (sigE_zero (hpre x hx)).2.1⟩)
      have h8 := hv.len
      rw [List.length_take] at this
      omega
    have hcb : allC v f t (zs.take j) ≤ 24 * 8 := by
      have := allC_le (v := v) (f := f) (t := t) (zs := zs.take j) (fun x hx => oneC_fit hv (hpre x hx))
      rw [List.length_take] at this
      omega
    have hcp := allC_pos v f t (zs.take j)
    have HRS := hide hrs
    have HBX := hide hbx
    have HZO2 := hide hzo
    have HPRE := hide hpre
    have hfin := hv.fin.2
    by_cases hlt : j < zs.length
    · have hx : zs[j]? = some zs[j] := List.getElem?_eq_getElem hlt
      obtain ⟨xb, xo, rfl, hxb, hxc⟩ := hzo.ats.at_ hlt
      have hmem : zs[j] ∈ zs := List.getElem_mem hlt
      have hxI := HZ.out.2.2.2 _ hmem
      have htk : zs.take (j + 1) = zs.take j ++ [zs[j]] := List.take_succ_eq_append_getElem hlt
      have hcut := take_at hx
      generalize zs[j] = x at *
      have hone := oneC_pos v f t x
      have hcn : allC v f t (zs.take j) + oneC v f t x ≤ allC v f t zs := by
        have := allC_take v f t zs (j + 1)
        rwa [htk, allC_snoc] at this
      obtain ⟨cj, hcj⟩ : ∃ cj, c + allC v f t (zs.take j) = cj := ⟨_, rfl⟩
      have hsrc := hrs.src
      rw [hcj] at hsrc hroom
      have HSRC := hide hsrc
      have HTK := hide htk
      have HCUT := hide hcut
      have HX := hide hx
      clear hrs hbx hzo hpre htk hcut hx hsrc
      have HNO := hide (show ∀ (q : Int), 0 ≤ L → L < c + allC v f t zs → ∀ wr, (∃ c', SrcTo w M v L c' wr) → RowsPost v n' L c M f t w (.returned (.tuple #[.slice none 0 0, .slice none 0 0, .int .i64 14])) wr from fun q h1 h2 wr h3 => ⟨zs, HZ.out.2.2.1, HZ.out.2.2.2, HZ.out.2.1, HZ.out.1, .inr (.inr ⟨HFIT.out h1 zs HZ.out.2.2.2 HZ.out.2.1, h1, h2, rfl, h3⟩)⟩)
      have HBAD := hide (show ∀ (q : Int), sigE v n' x = q → q ≠ 0 → ∀ wr, (∃ c', SrcTo w M v L c' wr) → RowsPost v n' L c M f t w (.returned (.tuple #[.slice none 0 0, .slice none 0 0, .int .i64 q])) wr from fun q h1 h2 wr h3 => by
        have hfe : fitE v n' zs = q := by rw [HCUT.out, fitE_bad (by rw [h1]; exact h2) HPRE.out, h1]
        refine ⟨zs, HZ.out.2.2.1, HZ.out.2.2.2, HZ.out.2.1, HZ.out.1, .inl ⟨by rw [hfe]; exact h2, ?_, by rw [hfe], h3⟩⟩
        rcases Int.lt_or_le L 0 with h4 | h4
        · exact h4
        · have := HFIT.out h4 zs HZ.out.2.2.2 HZ.out.2.1
          rw [hfe] at this
          exact absurd this h2)
      by_cases hlim : 0 ≤ L ∧ L < cj + 1
      · have hq : callC L cj x v.sigs.length = 14 := by unfold callC; rw [if_pos hlim]
        have hke := kind_err M v L cj x W HSRC.out.1 (by omega) (by omega) 14 hq (by decide)
        have hlt2 : L < c + allC v f t zs := by omega
        have HKE := hide hke
        clear hke
        go_wp2_with fail
        refine HKE.out.mono ?_
        rintro e w2 ⟨rfl, hs2⟩
        have HP := hide (HNO.out 0 hlim.1 hlt2 w2 ⟨_, HSRC.out.trans hs2⟩)
        clear hs2
        go_wp2_with fail
        go_ret3
        exact HP.out
      · by_cases hxr : x < 0 ∨ (v.sigs.length : Int) ≤ x
        · have hq : callC L cj x v.sigs.length = 2 := by unfold callC; rw [if_neg hlim, if_pos hxr]
          have HKE := hide (kind_err M v L cj x W HSRC.out.1 (by omega) (by omega) 2 hq (by decide))
          have hsg : sigE v n' x = 2 := by unfold sigE; rw [if_pos hxr]
          go_wp2_with fail
          refine HKE.out.mono ?_
          rintro e w2 ⟨rfl, hs2⟩
          have HP := hide (HBAD.out 2 hsg (by decide) w2 ⟨_, HSRC.out.trans hs2⟩)
          clear hs2
          go_wp2_with fail
          go_ret3
          exact HP.out
        · obtain ⟨k, rfl⟩ : ∃ k : Nat, x = (k : Int) := ⟨x.toNat, by omega⟩
          have hkl : k < v.sigs.length := by omega
          have hsk : v.sigs[k]? = some (sgnAt v (k : Int)) := by
            have := (sgn_mem (v := v) (x := (k : Int)) (by omega) (by omega)).1
            simpa using this
          have hsm := hv.each _ (List.mem_of_getElem? hsk)
          have hq : callC L cj (k : Int) v.sigs.length = 0 := by unfold callC; rw [if_neg hlim, if_neg hxr]
          have HKE := hide (kind_ok M v L cj k W HSRC.out.1 (by omega) (by omega) hq _ hsk)
          have hsg : sigE v n' (k : Int) = if agrF (k : Int) (sgnAt v (k : Int)).kind (sgnAt v (k : Int)).width n' then 0 else 7 := by unfold sigE; rw [if_neg hxr]
          have hgo : gOf v (k : Int) = valS (sgnAt v (k : Int)) := rfl
          have honeE : oneC v f t (k : Int) = 4 + ((beh (sgnAt v (k : Int)).chs f t).length : Int) := rfl
          have hagk := fun hagr => HEV.out (k : Int) ((HZ.out.2.1 _ hxI).1 hmem) (sgnAt v (k : Int)).kind (sgnAt v (k : Int)).width hagr
          generalize hsq : sgnAt v (k : Int) = s at *
          have HAK := hide hagk
          have HSG := hide hsg
          clear hsg hagk hsq
          go_wp2_with fail
          refine HKE.out.mono ?_
          rintro e w2 ⟨rfl, hs2⟩
          have HS2 := hide (HSRC.out.trans hs2)
          have hnm : M ≠ w.heap.size := by omega
          have hbx2 := (hs2.2.block _ (box_lt HBX.out) (fun e => by injection e with e; omega)).trans HBX.out
          obtain ⟨y0, y1, y2, y3, y4, y5, y6, y7, y8⟩ := box9 hbx2
          have HBX2 := hide hbx2
          have HBT2 := hide hs2.2
          clear hs2 hbx2
          have htr := tree_src (L := L) (c := cj + 1) HTW.out HS2.out
          have HAG := hide (HAGR2.out (k : Int) s.kind s.width w2 (htr.more fun _ => un_lo))
          cases hag : agrF (k : Int) s.kind s.width n' with
          | false =>
            rw [hag] at HAG HSG
            have hsg := HSG.out
            rw [if_neg (by decide)] at hsg
            have HP := hide (fun w3 (hb3 : Below w2.heap.size w2 w3) => HBAD.out 7 hsg (by decide) w3 ⟨_, HS2.out.below hb3⟩)
            clear hag hsg HSG
            go_wp2_with (go_at_call 94; refine HAG.out.mono ?_; rintro e w3 ⟨rfl, hb3⟩; have HB3 := hide hb3; clear hb3)
            go_ret3
            exact HP.out _ HB3.out
          | true =>
            rw [hag] at HAG HSG
            have hsg := HSG.out
            rw [if_pos rfl] at hsg
            have HSG0 := hide hsg
            have hk3 := HAK.out hag
            clear hag hsg HSG
            have HOF := hide (fun (w3 : World) (hs3 : SrcTo w M v L (cj + 1) w3) => show Calls Tryz.prog 68 #[.iface 36 (.pointer (some ⟨M, 0, none⟩)), .int .i64 (k : Int), .int .i64 f, .int .i64 t] w3 (OfPost v L (cj + 1) M s f t w3) from
              of_any v L (cj + 1) M k s f t w3 hs3.1 hsk hsm.sorted (by have := hsm.len; omega) (fun h9 => by have := hsm.width.1 h9; omega) hk3 (by omega) (by omega) hf hft htf (by omega))
            have hsl20 := hsm.len
            go_wp2_with (go_at_call 94; refine HAG.out.mono ?_; rintro e w3 ⟨rfl, hb3⟩; have HB3 := hide hb3; have HS3 := hide (HS2.out.below hb3); clear hb3 y0 y1 y2 y3 y4 y5 y6 y7 y8)
            refine (HOF.out w3 HS3.out).mono ?_
            rintro e w4 (⟨hr4, A4, c4, l4, rfl, ho4, hsp4, hl4, hs4⟩ | ⟨hL4, hr4, rfl, ⟨c9, hs4⟩⟩)
            · have hbw4 : But W.heap.size (some M) W w4 := HBT2.out.trans (((But.of HB3.out).mono HBT2.out.size).trans (hs4.2.mono (Nat.le_trans HBT2.out.size HB3.out.size)))
              obtain ⟨hown4, heach4⟩ := HRS.out.lists hM hbw4
              have hw3 := HS3.out.2.size
              have hs4l : OwnSp w4 w.heap.size A4 c4 l4 := Joins.ownsRow_le ho4 hw3
              have hcnt : cj + 1 + ((beh s.chs f t).length : Int) + 3 = c + allC v f t (zs.take (j + 1)) := by rw [HTK.out, allC_snoc, honeE]; omega
              have hsrc4 := HS3.out.trans hs4
              rw [hcnt] at hsrc4 hr4
              have hbx4 := (hbw4.block _ (box_lt HBX.out) (fun e => by injection e with e; omega)).trans HBX.out
              have hzo4 : OwnInt w4 zb (some ⟨xb, xo, none⟩) zc zs := own_block HZO2.out fun g hg => hbw4.block g (own_ob HZO2.out g hg).2 (fun e => by injection e with e; have := (own_ob HZO2.out g hg).1; have := HB0.out.size; omega)
              have HOA := hide (World.ownsRow.alloc hown4 (.cells #[celSp ⟨A4, c4, l4⟩] 58))
              have HNW := hide (heap_alloc_new w4 (.cells #[celSp ⟨A4, c4, l4⟩] 58))
              have hls8 : ls.length ≤ 8 := by have := HRS.out.len; omega
              have hw4 := hsrc4.2.size
              have HPU := hide (fun (W3 : World) (A' : Option Addr) (c' : Nat) hg ho => RS.push (W3 := W3) (A' := A') (c' := c') HRS.out.len HRS.out.all hown4 heach4 HRS.out.short hM HX.out (s := ⟨A4, c4, l4⟩) hs4l (by rw [hgo]; exact hsp4) (by show l4.length ≤ 21; omega) hsrc4 rfl hg ho)
              have HBX4 := hide hbx4
              have HZ4 := hide hzo4
              have HOW4 := hide hown4
              have HR4 := hide hr4
              have HP1 := hide (show ∀ x ∈ zs.take (j + 1), sigE v n' x = 0 by
                rw [HTK.out]
                intro x hx
                rcases List.mem_append.1 hx with hx | hx
                · exact HPRE.out x hx
                · simp at hx; subst hx; exact HSG0.out)
              clear hbw4 hown4 heach4 hs4l hsrc4 hbx4 hzo4 ho4 hsp4 hs4 hr4 hcnt
              unfold celSp at HOA HNW HPU
              dsimp only at HOA HNW HPU
              go_wp2_with (at_builtin; (refine append_src rfl _ _ 140 rfl w.heap.size 58 i0 _ 1 24 Tryz.underlying140 hi0 hz0 hz1 hz2 rfl (by decide) (.slice A ls.length cc) ls.length (ls.map celSp) rfl HOA.out (some ⟨w4.heap.size, 0, none⟩) 1 1 [celSp ⟨A4, c4, l4⟩] rfl rfl (src_block (t := 58) (fr := (0, 0)) HNW.out) (celSp_one _) (by simp only [maxLen]; omega) (by omega) (by simp; omega) ?_); intro v' w5 hown5 hg5)
              have hv5 : ∃ A5 c5, v' = .slice A5 (ls ++ [(⟨A4, c4, l4⟩ : SpL)]).length c5 := by
                rcases Joins.ownsRow_forms hown5 with ⟨rfl, h9⟩ | ⟨g, cap, rfl⟩
                · omega
                · exact ⟨_, cap, by rw [List.length_append]; rfl⟩
              obtain ⟨A5, c5, rfl⟩ := hv5
              have ho5 : w5.ownsRow w.heap.size 58 1 (.slice A5 (ls ++ [(⟨A4, c4, l4⟩ : SpL)]).length c5) (ls ++ [(⟨A4, c4, l4⟩ : SpL)]).length ((ls ++ [(⟨A4, c4, l4⟩ : SpL)]).map celSp) := by
                rw [List.map_append, List.length_append] at *
                exact hown5
              rw [ob_eq] at hg5
              have old : ∀ b, b < w4.heap.size → ob A ≠ some b → w5.heap[b]? = w4.heap[b]? := fun b h1 h2 => by
                rw [hg5.block b (by simp; omega) (fun e => h2 e.symm), Below.heap_alloc _ _ _ h1]
              refine ⟨⟨j + 1, A5, c5, ls ++ [⟨A4, c4, l4⟩], hlt, by go_num, rfl, HP1.out, HR4.out, HPU.out w5 A5 c5 hg5 ho5, ?_, ?_⟩, by simp [intOf]; omega⟩
              · exact (old _ (box_lt HBX4.out) (own_ne_type HOW4.out rfl HBX4.out (by decide))).trans HBX4.out
              · refine own_block HZ4.out fun g hg => old g (own_ob HZ4.out g hg).2 (fun h9 => ?_)
                obtain ⟨cs, h8⟩ := own_cellsT HOW4.out h9
                exact own_ne_type HZ4.out rfl h8 (by decide) hg
            · have hlt4 : L < c + allC v f t zs := by rw [honeE] at hcn; omega
              have HP := hide (HNO.out 0 hL4 hlt4 w4 ⟨_, HS3.out.trans hs4⟩)
              clear hs4
              go_wp2_with fail
              go_ret3
              exact HP.out
    · have hje : j = zs.length := by omega
      have hrs2 := HRS.out
      have hpre2 := HPRE.out
      rw [hje] at hrs2
      rw [hje, List.take_length] at hpre2
      have hroom2 := hroom
      rw [hje, List.take_length] at hroom2
      have hfe : fitE v n' zs = 0 := fitE_ok.2 hpre2
      have hsrc := hrs2.src
      rw [List.take_length] at hsrc
      have hall := hrs2.all
      rw [List.take_length] at hall
      by_cases hne : ls = []
      · have hz0e : zs = [] := List.eq_nil_of_length_eq_zero (by have := hrs2.len; rw [hne] at this; exact this.symm)
        obtain ⟨W9, hW9⟩ : ∃ W9, W.alloc (.cells #[.int .i64 f, .int .i64 t, .slice none 0 0] 142) = W9 := ⟨_, rfl⟩
        have hb9 : Below W.heap.size W W9 := by rw [← hW9]; exact (Below.refl _ _).alloc (Nat.le_refl _) _
        have hg9 : W9.heap[W.heap.size]? = some (.cells #[.int .i64 f, .int .i64 t, .slice none 0 0] 142 (0, 0)) := by rw [← hW9]; exact heap_alloc_new W _
        have hws := hsrc.2.size
        have hl9 := box_lt hg9
        have HP := hide (show RowsPost v n' L c M f t w (.returned (.tuple #[.slice (some ⟨W.heap.size, 0, none⟩) 1 1, .slice none 0 0, .int .i64 0])) W9 from by
          refine ⟨zs, HZ.out.2.2.1, HZ.out.2.2.2, HZ.out.2.1, HZ.out.1, .inr (.inl ⟨hfe, hroom2, some ⟨W.heap.size, 0, none⟩, 1, [⟨f, t, none, 0, []⟩], none, 0, by rw [hz0e]; rfl, ⟨fun _ => ⟨W.heap.size, 0, rfl, ⟨hws, hl9⟩, fun i r hi k hk => ?_⟩, fun r hr => ?_⟩, by rw [hz0e]; exact IntsAt.nil, by rw [hz0e]; exact ⟨rfl, hft, fun _ _ _ => rfl, rfl⟩, by simp, by simp, hsrc.below hb9⟩)⟩
          · match i, hi with
            | 0, hi =>
              simp at hi
              subst hi
              rw [cell_of_row W9 W.heap.size _ _ _ (0, 0) hg9]
              simp [encRw]
            | i + 1, hi => simp at hi
          · simp at hr
            subst hr
            exact StrsAt.nil)
        have HW9 := hide hW9
        subst hne
        clear hje hrs2 hpre2 hfe hsrc hall hW9 hb9 hg9 hz0e
        go_wp2_with fail
        rw [HW9.out]
        go_ret3
        exact HP.out
      · have hlp : 0 < ls.length := List.length_pos_iff.2 hne
        have hls8 : ls.length ≤ 8 := by have := HRS.out.len; omega
        have T0 : ((ls.length : Int) == 0) = false := beq_eq_false_iff_ne.2 (by omega)
        have HZIP := hide (zip_any f t (zs.map (gOf v)) A cc ls W hrs2.reads hne (by omega) hall hf (by omega) (fun s hs => by have := hrs2.short s hs; omega) (by have := hrs2.sum; have := hrs2.len; omega))
        have hws := hsrc.2.size
        have HP := hide (fun (A9 : Option Addr) (c9 : Nat) (rows : List RwM) (w9 : World) (h1 : Cov (zs.map (gOf v)) f (t + 1) (rows.map RwM.rw)) (h2 : rows ≠ []) (h3 : rows.length ≤ 4001) (h4 : RwsAt w9 (fun b => W.heap.size ≤ b ∧ b < w9.heap.size) A9 rows) (h5 : Below W.heap.size W w9) => show RowsPost v n' L c M f t w (.returned (.tuple #[.slice A9 rows.length c9, .slice ZA zs.length zc, .int .i64 0])) w9 from
          ⟨zs, HZ.out.2.2.1, HZ.out.2.2.2, HZ.out.2.1, HZ.out.1, .inr (.inl ⟨hfe, hroom2, A9, c9, rows, ZA, zc, rfl, ⟨h4.row.more fun b hb => ⟨Nat.le_trans hws hb.1, hb.2⟩, fun r hr => (h4.each r hr).more fun b hb => ⟨Nat.le_trans hws hb.1, hb.2⟩⟩, HZO2.out.ats.step h5, h1, h2, h3, hsrc.below h5⟩)⟩)
        clear hje hrs2 hpre2 hfe hsrc hall hne
        go_wp2_with (go_at_call 95; refine HZIP.out.mono ?_; rintro e w9 ⟨A9, c9, rows, rfl, h1, h2, h3, h4, h5⟩; have HP9 := hide (HP.out A9 c9 rows w9 h1 h2 h3 h4 h5); clear h1 h2 h4 h5)
        go_ret3
        exact HP9.out

end Go.Proofs.YtbhcmnfeeogdhaaGreatDoor

/-
  qcheck.operator, isValue: the width of an operator.
-/
namespace Go.Proofs.YtbhcmnfeeogdhaaGreatDoor
open Go.RowKit

def isValB (k : Int) : Bool := decide (1 ≤ k ∧ k ≤ 16)
set_option maxRecDepth 100000 in
set_option maxHeartbeats 1000000 in
theorem isValue_any (n : Nd) (w : World) (ht : TreesAt w (Lo w.heap.size) n.KA n.kids) : Calls Tryz.prog 45 #[.agg (cNd n).toArray] w (RetV (.bool (isValB n.kind)) w) := by
  obtain ⟨kind, at_, name, value, a, b, c, d, KA, kc, kids⟩ := n
  unfold Nd.KA Nd.kids at ht
  unfold cNd
  have hl := ht.len
  obtain ⟨W0, hW0⟩ : ∃ W0, w.alloc (.cells #[.int .i64 kind, .int .i64 at_, .string name, .string value, .int .i64 a, .int .i64 b, .int .i64 c, .int .i64 d, .slice KA kids.length kc] 30) = W0 := ⟨_, rfl⟩
  have g0 := new_at hW0
  have hb0 : Below w.heap.size w W0 := by rw [← hW0]; exact (Below.refl _ _).alloc (Nat.le_refl _) _
  have HT := hide (ht.grow hb0)
  have HG0 := hide g0
  have HB0 := hide hb0
  have HW0 := hide hW0
  obtain ⟨y0, y1, y2, y3, y4, y5, y6, y7, y8⟩ := box9 g0
  clear ht g0 hb0 hW0
  try dsimp only [Nd.kind, Nd.value, Nd.a, Nd.b, Nd.c, Nd.d, Nd.kids]
  go_enter Tryz.func45, Tryz.ntmps45
  go_upto_region 1 with (fail)
  rw [HW0.out]
  by_cases h1 : 1 ≤ kind
  · have T1 : decide (1 ≤ kind) = true := decide_eq_true h1
    by_cases h2 : kind ≤ 16
    · have T2 : decide (kind ≤ 16) = true := decide_eq_true h2
      have HR := hide (show isValB kind = true from decide_eq_true ⟨h1, h2⟩)
      clear h1 h2
      go_wp2_with fail
      go_ret
      exact ⟨by rw [HR.out]; rfl, HB0.out⟩
    · have T2 : decide (kind ≤ 16) = false := decide_eq_false h2
      have HR := hide (show isValB kind = false from decide_eq_false fun h => h2 h.2)
      clear h1 h2
      go_wp2_with fail
      go_ret
      exact ⟨by rw [HR.out]; rfl, HB0.out⟩
  · have T1 : decide (1 ≤ kind) = false := decide_eq_false h1
    have HR := hide (show isValB kind = false from decide_eq_false fun h => h1 h.1)
    clear h1
    go_wp2_with fail
    go_ret
    exact ⟨by rw [HR.out]; rfl, HB0.out⟩

/-- what operator's slice of widths holds -/
def WsAt (w : World) (A : Option Addr) (ws : List Int) : Prop := IntsAt w w.heap.size A ws ∧ ws.length ≤ 140737488355328 ∧ ∀ x ∈ ws, 1 ≤ x ∧ x ≤ 128
def SumRelQ (ws : List Int) (w : World) (s i : Value) (wr : World) : Prop := ∃ k : Nat, k ≤ ws.length ∧ i = .int .i64 (k : Int) ∧ s = .int .i64 (sumF (ws.take k)) ∧ w = wr
theorem sum_bound {ws : List Int} (h : ∀ x ∈ ws, 1 ≤ x ∧ x ≤ 128) (k : Nat) : 0 ≤ sumF (ws.take k) ∧ sumF (ws.take k) ≤ 128 * k := by
  induction k with
  | zero => simp [sumF]
  | succ k ih =>
    by_cases hk : k < ws.length
    · rw [List.take_succ_eq_append_getElem hk, sumF_snoc]
      have := h _ (List.getElem_mem hk)
      omega
    · rw [List.take_of_length_le (by omega)] at ih ⊢
      omega
set_option maxRecDepth 100000 in
set_option maxHeartbeats 4000000 in
theorem operator_any (n : Nd) (A : Option Addr) (cA : Nat) (ws : List Int) (w : World) (ht : TreesAt w (Lo w.heap.size) n.KA n.kids) (hws : WsAt w A ws) :
    Calls Tryz.prog 46 #[.agg (cNd n).toArray, .slice A ws.length cA] w (RetV (.int .i64 (operF n.kind n.a n.b ws)) w) := by
  obtain ⟨kind, at_, name, value, a, b, c, d, KA, kc, kids⟩ := n
  unfold Nd.KA Nd.kids at ht
  unfold cNd
  have hl := ht.len
  obtain ⟨W0, hW0⟩ : ∃ W0, w.alloc (.cells #[.int .i64 kind, .int .i64 at_, .string name, .string value, .int .i64 a, .int .i64 b, .int .i64 c, .int .i64 d, .slice KA kids.length kc] 30) = W0 := ⟨_, rfl⟩
  have g0 := new_at hW0
  have hb0 : Below w.heap.size w W0 := by rw [← hW0]; exact (Below.refl _ _).alloc (Nat.le_refl _) _
  have HT := hide (ht.grow hb0)
  have HG0 := hide g0
  have HB0 := hide hb0
  have HW0 := hide hW0
  obtain ⟨y0, y1, y2, y3, y4, y5, y6, y7, y8⟩ := box9 g0
  clear ht g0 hb0 hW0
  try dsimp only [Nd.kind, Nd.value, Nd.a, Nd.b, Nd.c, Nd.d, Nd.kids]
  obtain ⟨hw1, hw2, hw3⟩ := hws
  have hws0 := hw1.step HB0.out
  have HW3 := hide hw3
  have HW1 := hide hws0
  clear hw1 hw3
  go_enter Tryz.func46, Tryz.ntmps46
  go_upto_region 1 with (fail)
  rw [HW0.out]
  have HQ := hide (show ∀ v : Int, v = operF kind a b ws → RetV (.int .i64 (operF kind a b ws)) w (.returned (.int .i64 v)) W0 from fun v hv => ⟨by rw [hv], HB0.out⟩)
  by_cases k6 : kind = 6
  · subst k6
    by_cases l1 : ws.length = 1
    · obtain ⟨v, rfl⟩ : ∃ v, ws = [v] := by
        match ws, l1 with
        | [v], _ => exact ⟨v, rfl⟩
      obtain ⟨bA, oA, rfl, hbA, x0⟩ := HW1.out.at_ (k := 0) (by simp)
      simp only [List.getElem_cons_zero, Nat.add_zero] at x0
      have hv := HW3.out v (by simp)
      clear l1
      by_cases c1 : 0 ≤ b
      · have T1 : decide (0 ≤ b) = true := decide_eq_true c1
        by_cases c2 : b ≤ a
        · have T2 : decide (b ≤ a) = true := decide_eq_true c2
          by_cases c3 : a < v
          · have T3 : decide (a < v) = true := decide_eq_true c3
            have HR := hide (HQ.out (a - b + 1) (by unfold operF; simp [c1, c2, c3]))
            go_quiet (fail)
            go_wp2_with fail
            go_ret
            exact ⟨HR.out.1, below_drewN HR.out.2 _⟩
          · have T3 : decide (a < v) = false := decide_eq_false c3
            have HR := hide (HQ.out 0 (by unfold operF; simp [c3]))
            go_quiet (fail)
            go_wp2_with fail
            go_quiet (fail)
            go_wp2_with fail
            go_ret
            exact ⟨HR.out.1, by first | exact below_drewN (below_drewN HR.out.2 _) _ | exact below_drewN HR.out.2 _⟩
        · have T2 : decide (b ≤ a) = false := decide_eq_false c2
          have HR := hide (HQ.out 0 (by unfold operF; simp [c2]))
          go_quiet (fail)
          go_wp2_with fail
          go_quiet (fail)
          go_wp2_with fail
          go_ret
          exact ⟨HR.out.1, by first | exact below_drewN (below_drewN HR.out.2 _) _ | exact below_drewN HR.out.2 _⟩
      · have T1 : decide (0 ≤ b) = false := decide_eq_false c1
        have HR := hide (HQ.out 0 (by unfold operF; simp [c1]))
        go_quiet (fail)
        go_wp2_with fail
        go_quiet (fail)
        go_wp2_with fail
        go_ret
        exact ⟨HR.out.1, by first | exact below_drewN (below_drewN HR.out.2 _) _ | exact below_drewN HR.out.2 _⟩
    · have T0 : ((ws.length : Int) == 1) = false := beq_eq_false_iff_ne.2 (by omega)
      have HR := hide (HQ.out 0 (by unfold operF; rw [if_pos rfl]; match ws, l1 with | [], _ => rfl | [v], h => exact absurd rfl h | _ :: _ :: _, _ => rfl))
      clear l1
      go_quiet (fail)
      go_wp2_with fail
      go_quiet (fail)
      go_wp2_with fail
      go_ret
      exact ⟨HR.out.1, by first | exact below_drewN (below_drewN HR.out.2 _) _ | exact below_drewN HR.out.2 _⟩
  have T6 : (kind == 6) = false := beq_eq_false_iff_ne.2 k6
  by_cases k7 : kind = 7
  · subst k7
    go_quiet (fail)
    obtain ⟨V, hV⟩ : ∃ V, W0.drewN nq = V := ⟨_, rfl⟩
    rw [hV]
    have HBV := hide (show Below w.heap.size w V from by rw [← hV]; exact below_drewN HB0.out _)
    have hW1 : IntsAt V W0.heap.size A ws := by rw [← hV]; exact HW1.out
    have HWV := hide hW1
    have z0 : V.cell? ⟨w.heap.size, 0, none⟩ = some (.int .i64 7) := by rw [← hV]; exact y0
    clear hV hW1 HW1 HQ y0 y1 y2 y3 y4 y5 y6 y7 y8 k6
    go_wp2_with fail
    go_loop [5, 49] (fun s i => SumRelQ ws V s i V) (fun _ i => ws.length - (intOf i).toNat)
    case atStart => exact ⟨0, Nat.zero_le _, rfl, by simp [sumF], rfl⟩
    case round =>
      obtain ⟨k, hk, rfl, rfl, _⟩ := hrel
      have hb := sum_bound HW3.out k
      by_cases hlt : k < ws.length
      · obtain ⟨bA, oA, rfl, hbA, x0⟩ := HWV.out.at_ hlt
        have hv := HW3.out _ (List.getElem_mem hlt)
        have HS := hide (show sumF (ws.take (k + 1)) = sumF (ws.take k) + ws[k] from by rw [List.take_succ_eq_append_getElem hlt, sumF_snoc])
        generalize ws[k] = u at *
        generalize sumF (ws.take k) = s at *
        go_wp2_with fail
        go_round
        case rel => exact ⟨k + 1, hlt, by go_num, by rw [HS.out], rfl⟩
        case measure => simp [intOf]; omega
      · have hke : k = ws.length := by omega
        have HS := hide (show sumF (ws.take k) = sumF ws from by rw [hke, List.take_length])
        clear hke
        rw [HS.out] at hb ⊢
        by_cases c1 : sumF ws ≤ 128
        · have T1 : decide (sumF ws ≤ 128) = true := decide_eq_true c1
          have HR := hide (show RetV (.int .i64 (operF 7 a b ws)) w (.returned (.int .i64 (sumF ws))) V from ⟨by unfold operF; simp [c1], HBV.out⟩)
          clear c1
          go_wp2_with fail
          go_ret
          exact HR.out
        · have T1 : decide (sumF ws ≤ 128) = false := decide_eq_false c1
          have HR := hide (show RetV (.int .i64 (operF 7 a b ws)) w (.returned (.int .i64 0)) V from ⟨by unfold operF; simp [c1], HBV.out⟩)
          clear c1
          go_wp2_with fail
          go_ret
          exact HR.out
  have T7 : (kind == 7) = false := beq_eq_false_iff_ne.2 k7
  by_cases k8 : kind = 8
  · subst k8
    by_cases l1 : ws.length = 1
    · obtain ⟨v, rfl⟩ : ∃ v, ws = [v] := by
        match ws, l1 with
        | [v], _ => exact ⟨v, rfl⟩
      obtain ⟨bA, oA, rfl, hbA, x0⟩ := HW1.out.at_ (k := 0) (by simp)
      simp only [List.getElem_cons_zero, Nat.add_zero] at x0
      have HR := hide (HQ.out v (by unfold operF; simp))
      clear l1
      go_quiet (fail)
      go_wp2_with fail
      go_ret
      exact ⟨HR.out.1, below_drewN HR.out.2 _⟩
    · have T0 : ((ws.length : Int) == 1) = false := beq_eq_false_iff_ne.2 (by omega)
      have HR := hide (HQ.out 0 (by unfold operF; rw [if_neg (by omega), if_neg (by omega), if_pos rfl]; match ws, l1 with | [], _ => rfl | [v], h => exact absurd rfl h | _ :: _ :: _, _ => rfl))
      clear l1
      go_quiet (fail)
      go_wp2_with fail
      go_quiet (fail)
      go_wp2_with fail
      go_ret
      exact ⟨HR.out.1, by first | exact below_drewN (below_drewN HR.out.2 _) _ | exact below_drewN HR.out.2 _⟩
  have T8 : (kind == 8) = false := beq_eq_false_iff_ne.2 k8
  by_cases kR : 14 ≤ kind ∧ kind ≤ 16
  · have T1 : decide (14 ≤ kind) = true := decide_eq_true kR.1
    have T2 : decide (kind ≤ 16) = true := decide_eq_true kR.2
    have T3 : decide (9 ≤ kind) = true := decide_eq_true (by omega)
    have T4 : decide (kind ≤ 13) = false := decide_eq_false (by omega)
    by_cases l1 : ws.length = 1
    · obtain ⟨v, rfl⟩ : ∃ v, ws = [v] := by
        match ws, l1 with
        | [v], _ => exact ⟨v, rfl⟩
      have HR := hide (HQ.out 1 (by unfold operF; rw [if_neg k6, if_neg k7, if_neg k8, if_pos kR]))
      clear l1 kR k6 k7 k8
      go_quiet (fail)
      go_wp2_with fail
      go_ret
      exact ⟨HR.out.1, below_drewN HR.out.2 _⟩
    · have T0 : ((ws.length : Int) == 1) = false := beq_eq_false_iff_ne.2 (by omega)
      have HR := hide (HQ.out 0 (by unfold operF; rw [if_neg k6, if_neg k7, if_neg k8, if_pos kR]; match ws, l1 with | [], _ => rfl | [v], h => exact absurd rfl h | _ :: _ :: _, _ => rfl))
      clear l1 kR k6 k7 k8
      go_quiet (fail)
      go_wp2_with fail
      go_quiet (fail)
      go_wp2_with fail
      go_ret
      exact ⟨HR.out.1, by first | exact below_drewN (below_drewN HR.out.2 _) _ | exact below_drewN HR.out.2 _⟩
  by_cases kB : 9 ≤ kind ∧ kind ≤ 13
  · have T1 : decide (14 ≤ kind) = false := decide_eq_false (by omega)
    have T3 : decide (9 ≤ kind) = true := decide_eq_true kB.1
    have T4 : decide (kind ≤ 13) = true := decide_eq_true kB.2
    by_cases l1 : ws.length = 2
    · obtain ⟨v, u, rfl⟩ : ∃ v u, ws = [v, u] := by
        match ws, l1 with
        | [v, u], _ => exact ⟨v, u, rfl⟩
      obtain ⟨bA, oA, rfl, hbA, x0⟩ := HW1.out.at_ (k := 0) (by simp)
      obtain ⟨_, _, e, _, x1⟩ := HW1.out.at_ (k := 1) (by simp)
      injection e with e
      injection e with e1 e2
      subst e1 e2
      simp only [List.getElem_cons_zero, List.getElem_cons_succ, Nat.add_zero] at x0 x1
      by_cases c1 : v = u
      · have T5 : (v == u) = true := beq_iff_eq.2 c1
        have HR := hide (HQ.out v (by unfold operF; rw [if_neg k6, if_neg k7, if_neg k8, if_neg kR, if_pos kB]; simp [c1]))
        clear l1 kR kB k6 k7 k8 c1
        go_quiet (fail)
        go_wp2_with fail
        go_quiet (fail)
        go_wp2_with fail
        go_ret
        exact ⟨HR.out.1, by first | exact below_drewN (below_drewN HR.out.2 _) _ | exact below_drewN HR.out.2 _⟩
      · have T5 : (v == u) = false := beq_eq_false_iff_ne.2 c1
        have HR := hide (HQ.out 0 (by unfold operF; rw [if_neg k6, if_neg k7, if_neg k8, if_neg kR, if_pos kB]; simp [c1]))
        clear l1 kR kB k6 k7 k8 c1
        go_quiet (fail)
        go_wp2_with fail
        go_quiet (fail)
        go_wp2_with fail
        go_ret
        exact ⟨HR.out.1, by first | exact below_drewN (below_drewN HR.out.2 _) _ | exact below_drewN HR.out.2 _⟩
    · have T0 : ((ws.length : Int) == 2) = false := beq_eq_false_iff_ne.2 (by omega)
      have HR := hide (HQ.out 0 (by unfold operF; rw [if_neg k6, if_neg k7, if_neg k8, if_neg kR, if_pos kB]; match ws, l1 with | [], _ => rfl | [v], _ => rfl | [_, _], h => exact absurd rfl h | _ :: _ :: _ :: _, _ => rfl))
      clear l1 kR kB k6 k7 k8
      go_quiet (fail)
      go_wp2_with fail
      go_quiet (fail)
      go_wp2_with fail
      go_ret
      exact ⟨HR.out.1, by first | exact below_drewN (below_drewN HR.out.2 _) _ | exact below_drewN HR.out.2 _⟩
  have HR := hide (HQ.out 0 (by unfold operF; rw [if_neg k6, if_neg k7, if_neg k8, if_neg kR, if_neg kB]))
  by_cases k9 : kind < 9
  · have T1 : decide (14 ≤ kind) = false := decide_eq_false (by omega)
    have T3 : decide (9 ≤ kind) = false := decide_eq_false (by omega)
    clear kR kB k6 k7 k8 k9
    go_quiet (fail)
    go_wp2_with fail
    go_quiet (fail)
    go_wp2_with fail
    go_ret
    exact ⟨HR.out.1, by first | exact below_drewN (below_drewN HR.out.2 _) _ | exact below_drewN HR.out.2 _⟩
  · have T1 : decide (14 ≤ kind) = true := decide_eq_true (by omega)
    have T2 : decide (kind ≤ 16) = false := decide_eq_false (by omega)
    have T3 : decide (9 ≤ kind) = true := decide_eq_true (by omega)
    have T4 : decide (kind ≤ 13) = false := decide_eq_false (by omega)
    clear kR kB k6 k7 k8 k9
    go_quiet (fail)
    go_wp2_with fail
    go_quiet (fail)
    go_wp2_with fail
    go_ret
    exact ⟨HR.out.1, by first | exact below_drewN (below_drewN HR.out.2 _) _ | exact below_drewN HR.out.2 _⟩

end Go.Proofs.YtbhcmnfeeogdhaaGreatDoor

/-
  qcheck.widths: the widths of operands that are values of Bits.
-/
namespace Go.Proofs.YtbhcmnfeeogdhaaGreatDoor
open Go.RowKit

/-- what Type answers -/
def typV (o : Option (Int × Int)) : Value := match o with | none => .tuple #[.int .i64 0, .int .i64 0, .int .i64 7] | some (k, w) => .tuple #[.int .i64 k, .int .i64 w, .int .i64 0]
def TypeC (n : Nd) : Prop := ∀ w : World, TreesAt w (Lo w.heap.size) n.KA n.kids → Calls Tryz.prog 21 #[.agg (cNd n).toArray] w (RetV (typV (typeF n)) w)
/-- what widths answers -/
def WidPost (l : List Nd) (w : World) (e : Ending) (w' : World) : Prop := ∃ (A : Option Addr) (c : Nat) (ws : List Int) (b : Bool), e = .returned (.tuple #[.slice A ws.length c, .bool b]) ∧ Below w.heap.size w w' ∧ IntsAt w' w'.heap.size A ws ∧ (b = true → widthsF (l.map typeF) = some ws) ∧ (b = false → widthsF (l.map typeF) = none)
def WidRel (l : List Nd) (w : World) (v i : Value) (wr : World) : Prop := ∃ (k : Nat) (A : Option Addr) (c : Nat) (ws : List Int), k ≤ l.length ∧ i = .int .i64 (k : Int) ∧ v = .slice A ws.length c ∧ OwnInt wr w.heap.size A c ws ∧ widthsF ((l.take k).map typeF) = some ws ∧ Below w.heap.size w wr
theorem widthsF_snoc (l : List (Option (Int × Int))) (x : Option (Int × Int)) : widthsF (l ++ [x]) = (widthsF l).bind fun ws => match x with | some (0, w) => some (ws ++ [w]) | _ => none := by
  induction l with
  | nil =>
    cases x with
    | none => rfl
    | some p =>
      obtain ⟨k, w⟩ := p
      by_cases hk : k = 0
      · subst hk; rfl
      · simp only [List.nil_append, widthsF, if_neg hk, Option.bind_some]
        split
        · rename_i h; injection h with h; injection h with h; exact absurd h hk
        · rfl
  | cons y l ih =>
    cases y with
    | none => rfl
    | some p =>
      obtain ⟨k, w⟩ := p
      by_cases hk : k = 0
      · subst hk
        rw [List.cons_append, widthsF, if_pos rfl, widthsF, if_pos rfl, ih]
        cases widthsF l with
        | none => rfl
        | some ws =>
          simp only [Option.bind_some, Option.map_some]
          split <;> rfl
      · rw [List.cons_append, widthsF, if_neg hk, widthsF, if_neg hk]; rfl
theorem widthsF_bad {l l' : List (Option (Int × Int))} (h : widthsF l = none) : widthsF (l ++ l') = none := by
  induction l with
  | nil => cases h
  | cons y l ih =>
    cases y with
    | none => rfl
    | some p =>
      obtain ⟨k, w⟩ := p
      by_cases hk : k = 0
      · subst hk
        rw [widthsF, if_pos rfl, Option.map_eq_none_iff] at h
        rw [List.cons_append, widthsF, if_pos rfl, ih h]; rfl
      · rw [List.cons_append, widthsF, if_neg hk]

set_option maxRecDepth 100000 in
set_option maxHeartbeats 4000000 in
theorem widths_any (A : Option Addr) (cA : Nat) (l : List Nd) (w : World) (ht : TreesAt w (Lo w.heap.size) A l) (ih : ∀ n ∈ l, TypeC n) : Calls Tryz.prog 44 #[.slice A l.length cA] w (WidPost l w) := by
  have hl := ht.len
  obtain ⟨kids, hk⟩ : ∃ kids, kids = l := ⟨_, rfl⟩
  subst hk
  have HT := hide ht
  have IH := hide ih
  clear ih ht
  go_enter Tryz.func44, Tryz.ntmps44
  go_wp2_with fail
  go_loopw [4, 12] (fun v i wr => WidRel kids w v i wr) (fun _ i _ => kids.length - (intOf i).toNat)
  case atStart => exact ⟨0, none, 0, [], Nat.zero_le _, rfl, rfl, OwnInt.nil _ _, rfl, Below.refl _ _⟩
  case round =>
    obtain ⟨j, B, c, ws, hj, rfl, rfl, hown, hws, hbr⟩ := hrel
    have hwl : ws.length ≤ j := by
      have := (widthsF_at hws).1
      simp only [List.length_map, List.length_take] at this
      omega
    have HOWN := hide hown
    have HWS := hide hws
    clear hown hws
    by_cases hlt : j < kids.length
    · have hBr := hbr.size
      have HBR := hide hbr
      have HTK := hide (show (kids.take (j + 1)).map typeF = (kids.take j).map typeF ++ [typeF kids[j]] from by rw [List.take_succ_eq_append_getElem hlt, List.map_append]; rfl)
      have HALL := hide (show kids.map typeF = (kids.take (j + 1)).map typeF ++ (kids.drop (j + 1)).map typeF from by rw [← List.map_append, List.take_append_drop])
      have hT := HT.out.grow hbr
      obtain ⟨bk, ok, rfl, hbk, hc⟩ := hT.row.at_ hlt
      have hkid := hT.each _ (List.getElem_mem hlt)
      have hmem := List.getElem_mem hlt
      have hget : kids[j]? = some kids[j] := List.getElem?_eq_getElem hlt
      generalize kids[j] = m at *
      have HMEM := hide hmem
      have HGET := hide hget
      have HKID := hide hkid
      clear hmem hget hkid hT
      obtain ⟨m1, m2, m3, m4, m5, m6, m7, m8, mK, mc, ml⟩ := m
      unfold cNd at hc
      obtain ⟨c0, c1, c2, c3, c4, c5, c6, c7, c8⟩ := nine hc
      clear hc
      obtain ⟨W1, hW1⟩ : ∃ W1, wr.alloc (.cells #[.int .i64 m1, .int .i64 m2, .string m3, .string m4, .int .i64 m5, .int .i64 m6, .int .i64 m7, .int .i64 m8, .slice mK ml.length mc] 30) = W1 := ⟨_, rfl⟩
      have g1 := new_at hW1
      have hb1 : Below wr.heap.size wr W1 := by rw [← hW1]; exact (Below.refl _ _).alloc (Nat.le_refl _) _
      have hty := IH.out _ HMEM.out W1 (HKID.out.grow hb1)
      unfold cNd at hty
      have HTY := hide hty
      have HNX := hide (widthsF_snoc ((kids.take j).map typeF) (typeF (Nd.mk m1 m2 m3 m4 m5 m6 m7 m8 mK mc ml)))
      rw [HWS.out, Option.bind_some] at HNX
      have HBAD := hide (fun (h : widthsF ((kids.take j).map typeF ++ [typeF (Nd.mk m1 m2 m3 m4 m5 m6 m7 m8 mK mc ml)]) = none) => (show widthsF (kids.map typeF) = none from by rw [HALL.out, HTK.out]; exact widthsF_bad h))
      have HB1 := hide (bstep HBR.out hb1)
      have HW1 := hide hW1
      clear hW1 hty
      go_upto_region 5 with (fail)
      rw [HW1.out]
      clear HW1 c0 c1 c2 c3 c4 c5 c6 c7 c8
      obtain ⟨x0, x1, x2, x3, x4, x5, x6, x7, x8⟩ := box9 g1
      clear g1
      cases hty : typeF (Nd.mk m1 m2 m3 m4 m5 m6 m7 m8 mK mc ml) with
      | none =>
        rw [hty] at HTY HBAD
        unfold typV at HTY
        dsimp only at HTY
        have HN := hide (HBAD.out (by rw [widthsF_snoc]; cases widthsF ((kids.take j).map typeF) <;> rfl))
        clear hty HNX HBAD
        go_wp2_with (go_at_call 21; refine HTY.out.mono ?_; rintro e w2 ⟨rfl, hb2⟩; have HB2 := hide hb2; clear hb2)
        go_ret2
        exact ⟨none, 0, [], false, rfl, bstep HB1.out HB2.out, IntsAt.nil, (fun e => by cases e), fun _ => HN.out⟩
      | some p =>
        obtain ⟨k, v⟩ := p
        have hv := typeF_bound _ _ _ hty
        rw [hty] at HTY HBAD HNX HTK
        unfold typV at HTY
        dsimp only at HTY HNX
        by_cases hk0 : k = 0
        · subst hk0
          have HOW2 := hide (fun (w2 : World) (hb2 : Below W1.heap.size W1 w2) => (HOWN.out.below hb1 (Nat.le_refl _)).below hb2 (Nat.le_refl _))
          have hz1 := hb1.size
          have hv' : 1 ≤ v ∧ v ≤ 128 := by omega
          have HSN := hide (show widthsF ((kids.take (j + 1)).map typeF) = some (ws ++ [v]) from by rw [HTK.out]; exact HNX.out)
          clear hv HNX HBAD hb1 hty HOWN
          go_upto_region 8 with (go_at_call 21; refine HTY.out.mono ?_; rintro e w2 ⟨rfl, hb2⟩; have HB2 := hide hb2; clear hb2)
          have hz2 := HB2.out.size
          have HO2 := hide (HOW2.out w2 HB2.out)
          clear HOW2 x0 x1 x2 x3 x4 x5 x6 x7 x8
          go_wp2_with (at_builtin; (refine append_ints rfl _ _ rfl w.heap.size B c ws _ rfl rfl [v] 1 1 _ rfl rfl (by simp) _ _ rfl rfl (by simp) HO2.out (by omega) (by omega) ?_); intro g7 c7 w7 row7 ho7 hg7' hg7 hr7)
          have HB7 := hide (((bstep HB1.out HB2.out).alloc (by omega) _).grown hg7 (by simp; omega) hr7)
          refine ⟨⟨j + 1, some ⟨g7, 0, none⟩, c7, ws ++ [v], hlt, by go_num, by simp, ho7, HSN.out, HB7.out⟩, by simp [intOf]; omega⟩
        · have T1 : (k != 0) = true := by simp [hk0]
          have HN := hide (HBAD.out (by rw [widthsF_snoc]; cases widthsF ((kids.take j).map typeF) with | none => rfl | some ws => (simp only [Option.bind_some]; split; (rename_i h; injection h with h; injection h with h; exact absurd h hk0); rfl)))
          clear hty HNX HBAD hk0 hv
          go_wp2_with (go_at_call 21; refine HTY.out.mono ?_; rintro e w2 ⟨rfl, hb2⟩; have HB2 := hide hb2; clear hb2)
          go_ret2
          exact ⟨none, 0, [], false, rfl, bstep HB1.out HB2.out, IntsAt.nil, (fun e => by cases e), fun _ => HN.out⟩
    · have hke : j = kids.length := by omega
      have HE := hide (show WidPost kids w (.returned (.tuple #[.slice B ws.length c, .bool true])) wr from ⟨B, c, ws, true, rfl, hbr, HOWN.out.ats, fun _ => by have h := HWS.out; rw [hke, List.take_length] at h; exact h, fun e => by cases e⟩)
      clear hke
      go_wp2_with fail
      go_ret2
      exact HE.out

theorem ws_of {l : List Nd} {ws : List Int} (h : widthsF (l.map typeF) = some ws) : (∀ x ∈ ws, 1 ≤ x ∧ x ≤ 128) ∧ ws.length = l.length := by
  obtain ⟨h1, h2⟩ := widthsF_at h
  refine ⟨fun x hx => ?_, by simpa using h1⟩
  obtain ⟨i, hi⟩ := List.getElem?_of_mem hx
  have h3 := h2 i x hi
  rw [List.getElem?_map, Option.map_eq_some_iff] at h3
  obtain ⟨m, _, h4⟩ := h3
  have := typeF_bound _ _ _ h4
  omega

end Go.Proofs.YtbhcmnfeeogdhaaGreatDoor
