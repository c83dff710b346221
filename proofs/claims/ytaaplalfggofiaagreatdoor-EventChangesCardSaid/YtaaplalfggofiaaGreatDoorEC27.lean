/-
  Several texts in one: CRows. Each says at its head what it holds.
-/
import Derived.Test.YtaaplalfggofiaaGreatDoorEC26

/-
  condition.rows: the rows of the signals of a tree in a range.
-/
namespace Go.Proofs.YtaaplalfggofiaaGreatDoor
open Go.RowKit

def RowsPost (v : Wv) (n : Nd) (L c : Int) (M : Nat) (f t : Int) (w : World) (e : Ending) (w' : World) : Prop :=
  ∃ zs : List Int, zs.Nodup ∧ (∀ x ∈ zs, I64 x) ∧ (∀ x, I64 x → (x ∈ zs ↔ x ∈ sigF n)) ∧ zs.Pairwise (· ≤ ·) ∧
  ((fitE v n zs ≠ 0 ∧ L < 0 ∧ e = .returned (.tuple #[.slice none 0 0, .slice none 0 0, .int .i64 (fitE v n zs)]) ∧ ∃ c', SrcTo w M v L c' w') ∨
   (fitE v n zs = 0 ∧ (L < 0 ∨ c + allC v f t zs ≤ L) ∧ ∃ (RA : Option Addr) (rc : Nat) (rows : List RwM) (ZA : Option Addr) (zc : Nat), e = .returned (.tuple #[.slice RA rows.length rc, .slice ZA zs.length zc, .int .i64 0]) ∧ RwsAt w' (fun b => w.heap.size ≤ b ∧ b < w'.heap.size) RA rows ∧ IntsAt w' w'.heap.size ZA zs ∧ Cov (zs.map (gOf v)) f (t + 1) (rows.map RwM.rw) ∧ rows ≠ [] ∧ rows.length ≤ 4001 ∧ SrcTo w M v L (c + allC v f t zs) w') ∨
   (fitE v n zs = 0 ∧ 0 ≤ L ∧ L < c + allC v f t zs ∧ e = .returned (.tuple #[.slice none 0 0, .slice none 0 0, .int .i64 14]) ∧ ∃ c', SrcTo w M v L c' w'))
theorem allC_le {v : Wv} {f t : Int} : ∀ {zs : List Int}, (∀ x ∈ zs, oneC v f t x ≤ 24) → allC v f t zs ≤ 24 * zs.length
  | [], _ => by simp [allC]
  | z :: zs, h => by
    rw [allC_cons, List.length_cons]
    have := allC_le (zs := zs) fun x hx => h x (by simp [hx])
    have := h z (by simp)
    omega
theorem oneC_fit {v : Wv} (hv : SmallOk v) {n : Nd} {f t x : Int} (h : sigE v n x = 0) : oneC v f t x ≤ 24 := by
  obtain ⟨h1, h2, _⟩ := sigE_zero h
  obtain ⟨_, hm⟩ := sgn_mem h1 h2
  have := (hv.each _ hm).len
  have := beh_len (sgnAt v x).chs f t
  unfold oneC
  omega
theorem take_at {α : Type} {zs : List α} {j : Nat} {x : α} (h : zs[j]? = some x) : zs = zs.take j ++ x :: zs.drop (j + 1) := by
  have hlt := (List.getElem?_eq_some_iff.1 h).1
  have hx := (List.getElem?_eq_some_iff.1 h).2
  rw [← hx, ← List.drop_eq_getElem_cons hlt, List.take_append_drop]
def RLRel (v : Wv) (n : Nd) (L c : Int) (M : Nat) (f t : Int) (zs : List Int) (w : World) (N : Nat) (o : Obj) (zb : Nat) (ZA : Option Addr) (zc : Nat) (ls_ i : Value) (wr : World) : Prop :=
  ∃ (j : Nat) (A : Option Addr) (cc : Nat) (ls : List SpL), j ≤ zs.length ∧ i = .int .i64 (j : Int) ∧ ls_ = .slice A ls.length cc ∧ (∀ x ∈ zs.take j, sigE v n x = 0) ∧ (L < 0 ∨ c + allC v f t (zs.take j) ≤ L) ∧ RS w M v L c f t zs j A cc ls wr ∧ wr.heap[N]? = some o ∧ OwnInt wr zb ZA zc zs

set_option maxRecDepth 100000 in
set_option maxHeartbeats 8000000 in
theorem rows_any (v : Wv) (L c : Int) (M : Nat) (n : Nd) (f t : Int) (w : World) (h : SourceAt w M v L c) (hv : SmallOk v) (ht : TreesAt w (Un M w.heap.size) n.KA n.kids) (hok : okF n) (h60 : nodesF n ≤ 60) (hev : ∀ x ∈ sigF n, ∀ k d, agrF x k d n = true → k ≠ 3)
    (h0 : 0 ≤ c) (h1 : c ≤ 100000) (hL : L < 0 ∨ c ≤ L) (hf : 0 ≤ f) (hft : f ≤ t) (htf : t ≤ v.fin) (hfit : 0 ≤ L → ∀ zs, (∀ x ∈ zs, I64 x) → (∀ x, I64 x → (x ∈ zs ↔ x ∈ sigF n)) → fitE v n zs = 0) :
    Calls Tryz.prog 57 #[srcV M, .agg (cNd n).toArray, .int .i64 f, .int .i64 t] w (RowsPost v n L c M f t w) := by
  obtain ⟨i0, hi0, hz0, hz1, hz2⟩ := info_parts infoSls
  have hsn := sig_nodes n
  have hsl : (sigF n).length ≤ 1000000 := by omega
  have HSIG := hide (fun (W : World) (h2 : TreesAt W (Lo W.heap.size) n.KA n.kids) => signals2_any n W h2 hok hsl)
  have HAGR := hide (fun (x k d : Int) => agrees_any x k d n)
  obtain ⟨n', hn'⟩ : ∃ n', n' = n := ⟨_, rfl⟩
  rw [show RowsPost v n L c M f t w = RowsPost v n' L c M f t w by rw [hn']]
  have HEV := hide (show ∀ x ∈ sigF n', ∀ k d, agrF x k d n' = true → k ≠ 3 by rw [hn']; exact hev)
  have HFIT := hide (show 0 ≤ L → ∀ zs, (∀ x ∈ zs, I64 x) → (∀ x, I64 x → (x ∈ zs ↔ x ∈ sigF n')) → fitE v n' zs = 0 by rw [hn']; exact hfit)
  have HSIG2 := hide (show ∀ (W : World) (h2 : TreesAt W (Lo W.heap.size) n.KA n.kids), Calls Tryz.prog 129 #[.agg (cNd n).toArray] W (SigsPost2 n' W) by rw [hn']; exact HSIG.out)
  have HAGR2 := hide (show ∀ (x k d : Int) (W : World), TreesAt W (Lo W.heap.size) n.KA n.kids → Calls Tryz.prog 130 #[.agg (cNd n).toArray, .int .i64 x, .int .i64 k, .int .i64 d] W (RetV (.bool (agrF x k d n')) W) by rw [hn']; exact fun x k d => HAGR.out x k d)
  clear HSIG HAGR hn' hev hfit hsn hsl h60 hok
  have hM := h.lt
  obtain ⟨kind, at_, name, value, a, b, c0, d, KA, kc, kids⟩ := n
  unfold Nd.KA Nd.kids at ht HSIG2 HAGR2
  unfold cNd at HSIG2 HAGR2 ⊢
  dsimp only at HSIG2 HAGR2
  obtain ⟨W0, hW0⟩ : ∃ W0, w.alloc (.cells #[.int .i64 kind, .int .i64 at_, .string name, .string value, .int .i64 a, .int .i64 b, .int .i64 c0, .int .i64 d, .slice KA kids.length kc] 28) = W0 := ⟨_, rfl⟩
  have g0 := new_at hW0
  have hb0 : Below w.heap.size w W0 := by rw [← hW0]; exact (Below.refl _ _).alloc (Nat.le_refl _) _
  have HT := hide (tree_below ht hb0)
  have HTW := hide ht
  have HS0 := hide (SrcTo.start h hb0)
  have HG0 := hide g0
  have HB0 := hide hb0
  have HW0 := hide hW0
  have HSC := hide (HSIG2.out W0 (HT.out.more fun _ => un_lo))
  obtain ⟨y0, y1, y2, y3, y4, y5, y6, y7, y8⟩ := box9 g0
  have hz0w : w.heap.size < W0.heap.size := box_lt g0
  clear ht g0 hb0 hW0 h HSIG2
  unfold srcV
  have hmk := meth_kind (some ⟨M, 0, none⟩)
  go_enter Tryz.func57, Tryz.ntmps57
  go_upto_region 1 with (fail)
  rw [HW0.out]
  go_upto_region 4 with (go_at_call 129; refine HSC.out.mono ?_; rintro e w1 ⟨ZA, zc, zs, rfl, hzi, hzl, hzp, hzm, hzb, hzn, hzI, zb, hzb2, hzo⟩; have HZ := hide (And.intro hzp (And.intro hzm (And.intro hzn hzI))); have HZB := hide hzb; have HZO := hide hzo; clear hzi hzp hzm hzn hzI hzb hzo)
  have hzs := HZB.out.size
  have HS1 := hide (HS0.out.below HZB.out)
  have HG1 := hide ((HZB.out.block _ hz0w).trans HG0.out)
  clear y0 y1 y2 y3 y4 y5 y6 y7 y8
  go_loopw [12, 25] (fun ls_ i wr => RLRel v n' L c M f t zs w w.heap.size (.cells #[.int .i64 kind, .int .i64 at_, .string name, .string value, .int .i64 a, .int .i64 b, .int .i64 c0, .int .i64 d, .slice KA kids.length kc] 28 (0, 0)) zb ZA zc ls_ i wr) (fun _ i _ => zs.length - (intOf i).toNat)
  case atStart =>
    refine ⟨0, none, 0, [], Nat.zero_le _, rfl, rfl, (fun x hx => by simp at hx), ?_, ⟨?_, rfl, trivial, World.ownsRow_nil _ _ _ _, (fun s hs => by cases hs), (fun s hs => by cases hs)⟩, HG1.out, HZO.out⟩
    · have : allC v f t [] = 0 := rfl
      rw [List.take_zero, this]; omega
    · have := HS1.out
      simpa [allC] using this
  case round =>
    obtain ⟨W, rfl⟩ : ∃ w2 : World, w2 = wr := ⟨_, rfl⟩
    obtain ⟨j, A, cc, ls, hj, rfl, rfl, hpre, hroom, hrs, hbx, hzo⟩ := hrel
    have hj8 : j ≤ 8 := by
      have := nodup_few v.sigs.length (zs := zs.take j) (HZ.out.2.2.1.sublist (List.take_sublist _ _)) (fun x hx => ⟨(sigE_zero (hpre x hx)).1, (sigE_zero (hpre x hx)).2.1⟩)
      have h8 := hv.len
      rw [List.length_take] at this
      omega
    have hcb : allC v f t (zs.take j) ≤ 24 * 8 := by
      have := allC_le (v := v) (f := f) (t := t) (zs := zs.take j) (fun x hx => oneC_fit hv (hpre x hx))
      rw [List.length_take] at this
      omega
    have hcp := allC_pos v f t (zs.take j)
    have HRS := hide hrs
    have HBX := hide hbx
    have HZO2 := hide hzo
    have HPRE := hide hpre
    have hfin := hv.fin.2
    by_cases hlt : j < zs.length
    · have hx : zs[j]? = some zs[j] := List.getElem?_eq_getElem hlt
      obtain ⟨xb, xo, rfl, hxb, hxc⟩ := hzo.ats.at_ hlt
      have hmem : zs[j] ∈ zs := List.getElem_mem hlt
      have hxI := HZ.out.2.2.2 _ hmem
      have htk : zs.take (j + 1) = zs.take j ++ [zs[j]] := List.take_succ_eq_append_getElem hlt
      have hcut := take_at hx
      generalize zs[j] = x at *
      have hone := oneC_pos v f t x
      have hcn : allC v f t (zs.take j) + oneC v f t x ≤ allC v f t zs := by
        have := allC_take v f t zs (j + 1)
        rwa [htk, allC_snoc] at this
      obtain ⟨cj, hcj⟩ : ∃ cj, c + allC v f t (zs.take j) = cj := ⟨_, rfl⟩
      have hsrc := hrs.src
      rw [hcj] at hsrc hroom
      have HSRC := hide hsrc
      have HTK := hide htk
      have HCUT := hide hcut
      have HX := hide hx
      clear hrs hbx hzo hpre htk hcut hx hsrc
      have HNO := hide (show ∀ (q : Int), 0 ≤ L → L < c + allC v f t zs → ∀ wr, (∃ c', SrcTo w M v L c' wr) → RowsPost v n' L c M f t w (.returned (.tuple #[.slice none 0 0, .slice none 0 0, .int .i64 14])) wr from fun q h1 h2 wr h3 => ⟨zs, HZ.out.2.2.1, HZ.out.2.2.2, HZ.out.2.1, HZ.out.1, .inr (.inr ⟨HFIT.out h1 zs HZ.out.2.2.2 HZ.out.2.1, h1, h2, rfl, h3⟩)⟩)
      have HBAD := hide (show ∀ (q : Int), sigE v n' x = q → q ≠ 0 → ∀ wr, (∃ c', SrcTo w M v L c' wr) → RowsPost v n' L c M f t w (.returned (.tuple #[.slice none 0 0, .slice none 0 0, .int .i64 q])) wr from fun q h1 h2 wr h3 => by
        have hfe : fitE v n' zs = q := by rw [HCUT.out, fitE_bad (by rw [h1]; exact h2) HPRE.out, h1]
        refine ⟨zs, HZ.out.2.2.1, HZ.out.2.2.2, HZ.out.2.1, HZ.out.1, .inl ⟨by rw [hfe]; exact h2, ?_, by rw [hfe], h3⟩⟩
        rcases Int.lt_or_le L 0 with h4 | h4
        · exact h4
        · have := HFIT.out h4 zs HZ.out.2.2.2 HZ.out.2.1
          rw [hfe] at this
          exact absurd this h2)
      by_cases hlim : 0 ≤ L ∧ L < cj + 1
      · have hq : callC L cj x v.sigs.length = 14 := by unfold callC; rw [if_pos hlim]
        have hke := kind_err M v L cj x W HSRC.out.1 (by omega) (by omega) 14 hq (by decide)
        have hlt2 : L < c + allC v f t zs := by omega
        have HKE := hide hke
        clear hke
        go_wp2_with fail
        refine HKE.out.mono ?_
        rintro e w2 ⟨rfl, hs2⟩
        have HP := hide (HNO.out 0 hlim.1 hlt2 w2 ⟨_, HSRC.out.trans hs2⟩)
        clear hs2
        go_wp2_with fail
        go_ret3
        exact HP.out
      · by_cases hxr : x < 0 ∨ (v.sigs.length : Int) ≤ x
        · have hq : callC L cj x v.sigs.length = 2 := by unfold callC; rw [if_neg hlim, if_pos hxr]
          have HKE := hide (kind_err M v L cj x W HSRC.out.1 (by omega) (by omega) 2 hq (by decide))
          have hsg : sigE v n' x = 2 := by unfold sigE; rw [if_pos hxr]
          go_wp2_with fail
          refine HKE.out.mono ?_
          rintro e w2 ⟨rfl, hs2⟩
          have HP := hide (HBAD.out 2 hsg (by decide) w2 ⟨_, HSRC.out.trans hs2⟩)
          clear hs2
          go_wp2_with fail
          go_ret3
          exact HP.out
        · obtain ⟨k, rfl⟩ : ∃ k : Nat, x = (k : Int) := ⟨x.toNat, by omega⟩
          have hkl : k < v.sigs.length := by omega
          have hsk : v.sigs[k]? = some (sgnAt v (k : Int)) := by
            have := (sgn_mem (v := v) (x := (k : Int)) (by omega) (by omega)).1
            simpa using this
          have hsm := hv.each _ (List.mem_of_getElem? hsk)
          have hq : callC L cj (k : Int) v.sigs.length = 0 := by unfold callC; rw [if_neg hlim, if_neg hxr]
          have HKE := hide (kind_ok M v L cj k W HSRC.out.1 (by omega) (by omega) hq _ hsk)
          have hsg : sigE v n' (k : Int) = if agrF (k : Int) (sgnAt v (k : Int)).kind (sgnAt v (k : Int)).width n' then 0 else 7 := by unfold sigE; rw [if_neg hxr]
          have hgo : gOf v (k : Int) = valS (sgnAt v (k : Int)) := rfl
          have honeE : oneC v f t (k : Int) = 4 + ((beh (sgnAt v (k : Int)).chs f t).length : Int) := rfl
          have hagk := fun hagr => HEV.out (k : Int) ((HZ.out.2.1 _ hxI).1 hmem) (sgnAt v (k : Int)).kind (sgnAt v (k : Int)).width hagr
          generalize hsq : sgnAt v (k : Int) = s at *
          have HAK := hide hagk
          have HSG := hide hsg
          clear hsg hagk hsq
          go_wp2_with fail
          refine HKE.out.mono ?_
          rintro e w2 ⟨rfl, hs2⟩
          have HS2 := hide (HSRC.out.trans hs2)
          have hnm : M ≠ w.heap.size := by omega
          have hbx2 := (hs2.2.block _ (box_lt HBX.out) (fun e => by injection e with e; omega)).trans HBX.out
          obtain ⟨y0, y1, y2, y3, y4, y5, y6, y7, y8⟩ := box9 hbx2
          have HBX2 := hide hbx2
          have HBT2 := hide hs2.2
          clear hs2 hbx2
          have htr := tree_src (L := L) (c := cj + 1) HTW.out HS2.out
          have HAG := hide (HAGR2.out (k : Int) s.kind s.width w2 (htr.more fun _ => un_lo))
          cases hag : agrF (k : Int) s.kind s.width n' with
          | false =>
            rw [hag] at HAG HSG
            have hsg := HSG.out
            rw [if_neg (by decide)] at hsg
            have HP := hide (fun w3 (hb3 : Below w2.heap.size w2 w3) => HBAD.out 7 hsg (by decide) w3 ⟨_, HS2.out.below hb3⟩)
            clear hag hsg HSG
            go_wp2_with (go_at_call 130; refine HAG.out.mono ?_; rintro e w3 ⟨rfl, hb3⟩; have HB3 := hide hb3; clear hb3)
            go_ret3
            exact HP.out _ HB3.out
          | true =>
            rw [hag] at HAG HSG
            have hsg := HSG.out
            rw [if_pos rfl] at hsg
            have HSG0 := hide hsg
            have hk3 := HAK.out hag
            clear hag hsg HSG
            have HOF := hide (fun (w3 : World) (hs3 : SrcTo w M v L (cj + 1) w3) => show Calls Tryz.prog 131 #[.iface 38 (.pointer (some ⟨M, 0, none⟩)), .int .i64 (k : Int), .int .i64 f, .int .i64 t] w3 (OfPost v L (cj + 1) M s f t w3) from
              of_any v L (cj + 1) M k s f t w3 hs3.1 hsk hsm.sorted (by have := hsm.len; omega) (fun h9 => by have := hsm.width.1 h9; omega) hk3 (by omega) (by omega) hf hft htf (by omega))
            have hsl20 := hsm.len
            go_wp2_with (go_at_call 130; refine HAG.out.mono ?_; rintro e w3 ⟨rfl, hb3⟩; have HB3 := hide hb3; have HS3 := hide (HS2.out.below hb3); clear hb3 y0 y1 y2 y3 y4 y5 y6 y7 y8)
            refine (HOF.out w3 HS3.out).mono ?_
            rintro e w4 (⟨hr4, A4, c4, l4, rfl, ho4, hsp4, hl4, hs4⟩ | ⟨hL4, hr4, rfl, ⟨c9, hs4⟩⟩)
            · have hbw4 : But W.heap.size (some M) W w4 := HBT2.out.trans (((But.of HB3.out).mono HBT2.out.size).trans (hs4.2.mono (Nat.le_trans HBT2.out.size HB3.out.size)))
              obtain ⟨hown4, heach4⟩ := HRS.out.lists hM hbw4
              have hw3 := HS3.out.2.size
              have hs4l : OwnSp w4 w.heap.size A4 c4 l4 := Joins.ownsRow_le ho4 hw3
              have hcnt : cj + 1 + ((beh s.chs f t).length : Int) + 3 = c + allC v f t (zs.take (j + 1)) := by rw [HTK.out, allC_snoc, honeE]; omega
              have hsrc4 := HS3.out.trans hs4
              rw [hcnt] at hsrc4 hr4
              have hbx4 := (hbw4.block _ (box_lt HBX.out) (fun e => by injection e with e; omega)).trans HBX.out
              have hzo4 : OwnInt w4 zb (some ⟨xb, xo, none⟩) zc zs := own_block HZO2.out fun g hg => hbw4.block g (own_ob HZO2.out g hg).2 (fun e => by injection e with e; have := (own_ob HZO2.out g hg).1; have := HB0.out.size; omega)
              have HOA := hide (World.ownsRow.alloc hown4 (.cells #[celSp ⟨A4, c4, l4⟩] 65))
              have HNW := hide (heap_alloc_new w4 (.cells #[celSp ⟨A4, c4, l4⟩] 65))
              have hls8 : ls.length ≤ 8 := by have := HRS.out.len; omega
              have hw4 := hsrc4.2.size
              have HPU := hide (fun (W3 : World) (A' : Option Addr) (c' : Nat) hg ho => RS.push (W3 := W3) (A' := A') (c' := c') HRS.out.len HRS.out.all hown4 heach4 HRS.out.short hM HX.out (s := ⟨A4, c4, l4⟩) hs4l (by rw [hgo]; exact hsp4) (by show l4.length ≤ 21; omega) hsrc4 rfl hg ho)
              have HBX4 := hide hbx4
              have HZ4 := hide hzo4
              have HOW4 := hide hown4
              have HR4 := hide hr4
              have HP1 := hide (show ∀ x ∈ zs.take (j + 1), sigE v n' x = 0 by
                rw [HTK.out]
                intro x hx
                rcases List.mem_append.1 hx with hx | hx
                · exact HPRE.out x hx
                · simp at hx; subst hx; exact HSG0.out)
              clear hbw4 hown4 heach4 hs4l hsrc4 hbx4 hzo4 ho4 hsp4 hs4 hr4 hcnt
              unfold celSp at HOA HNW HPU
              dsimp only at HOA HNW HPU
              go_wp2_with (at_builtin; (refine append_src rfl _ _ 190 rfl w.heap.size 65 i0 _ 1 24 Tryz.underlying190 hi0 hz0 hz1 hz2 rfl (by decide) (.slice A ls.length cc) ls.length (ls.map celSp) rfl HOA.out (some ⟨w4.heap.size, 0, none⟩) 1 1 [celSp ⟨A4, c4, l4⟩] rfl rfl (src_block (t := 65) (fr := (0, 0)) HNW.out) (celSp_one _) (by simp only [maxLen]; omega) (by omega) (by simp; omega) ?_); intro v' w5 hown5 hg5)
              have hv5 : ∃ A5 c5, v' = .slice A5 (ls ++ [(⟨A4, c4, l4⟩ : SpL)]).length c5 := by
                rcases Joins.ownsRow_forms hown5 with ⟨rfl, h9⟩ | ⟨g, cap, rfl⟩
                · omega
                · exact ⟨_, cap, by rw [List.length_append]; rfl⟩
              obtain ⟨A5, c5, rfl⟩ := hv5
              have ho5 : w5.ownsRow w.heap.size 65 1 (.slice A5 (ls ++ [(⟨A4, c4, l4⟩ : SpL)]).length c5) (ls ++ [(⟨A4, c4, l4⟩ : SpL)]).length ((ls ++ [(⟨A4, c4, l4⟩ : SpL)]).map celSp) := by
                rw [List.map_append, List.length_append] at *
                exact hown5
              rw [ob_eq] at hg5
              have old : ∀ b, b < w4.heap.size → ob A ≠ some b → w5.heap[b]? = w4.heap[b]? := fun b h1 h2 => by
                rw [hg5.block b (by simp; omega) (fun e => h2 e.symm), Below.heap_alloc _ _ _ h1]
              refine ⟨⟨j + 1, A5, c5, ls ++ [⟨A4, c4, l4⟩], hlt, by go_num, rfl, HP1.out, HR4.out, HPU.out w5 A5 c5 hg5 ho5, ?_, ?_⟩, by simp [intOf]; omega⟩
              · exact (old _ (box_lt HBX4.out) (own_ne_type HOW4.out rfl HBX4.out (by decide))).trans HBX4.out
              · refine own_block HZ4.out fun g hg => old g (own_ob HZ4.out g hg).2 (fun h9 => ?_)
                obtain ⟨cs, h8⟩ := own_cellsT HOW4.out h9
                exact own_ne_type HZ4.out rfl h8 (by decide) hg
            · have hlt4 : L < c + allC v f t zs := by rw [honeE] at hcn; omega
              have HP := hide (HNO.out 0 hL4 hlt4 w4 ⟨_, HS3.out.trans hs4⟩)
              clear hs4
              go_wp2_with fail
              go_ret3
              exact HP.out
    · have hje : j = zs.length := by omega
      have hrs2 := HRS.out
      have hpre2 := HPRE.out
      rw [hje] at hrs2
      rw [hje, List.take_length] at hpre2
      have hroom2 := hroom
      rw [hje, List.take_length] at hroom2
      have hfe : fitE v n' zs = 0 := fitE_ok.2 hpre2
      have hsrc := hrs2.src
      rw [List.take_length] at hsrc
      have hall := hrs2.all
      rw [List.take_length] at hall
      by_cases hne : ls = []
      · have hz0e : zs = [] := List.eq_nil_of_length_eq_zero (by have := hrs2.len; rw [hne] at this; exact this.symm)
        obtain ⟨W9, hW9⟩ : ∃ W9, W.alloc (.cells #[.int .i64 f, .int .i64 t, .slice none 0 0] 195) = W9 := ⟨_, rfl⟩
        have hb9 : Below W.heap.size W W9 := by rw [← hW9]; exact (Below.refl _ _).alloc (Nat.le_refl _) _
        have hg9 : W9.heap[W.heap.size]? = some (.cells #[.int .i64 f, .int .i64 t, .slice none 0 0] 195 (0, 0)) := by rw [← hW9]; exact heap_alloc_new W _
        have hws := hsrc.2.size
        have hl9 := box_lt hg9
        have HP := hide (show RowsPost v n' L c M f t w (.returned (.tuple #[.slice (some ⟨W.heap.size, 0, none⟩) 1 1, .slice none 0 0, .int .i64 0])) W9 from by
          refine ⟨zs, HZ.out.2.2.1, HZ.out.2.2.2, HZ.out.2.1, HZ.out.1, .inr (.inl ⟨hfe, hroom2, some ⟨W.heap.size, 0, none⟩, 1, [⟨f, t, none, 0, []⟩], none, 0, by rw [hz0e]; rfl, ⟨fun _ => ⟨W.heap.size, 0, rfl, ⟨hws, hl9⟩, fun i r hi k hk => ?_⟩, fun r hr => ?_⟩, by rw [hz0e]; exact IntsAt.nil, by rw [hz0e]; exact ⟨rfl, hft, fun _ _ _ => rfl, rfl⟩, by simp, by simp, hsrc.below hb9⟩)⟩
          · match i, hi with
            | 0, hi =>
              simp at hi
              subst hi
              rw [cell_of_row W9 W.heap.size _ _ _ (0, 0) hg9]
              simp [encRw]
            | i + 1, hi => simp at hi
          · simp at hr
            subst hr
            exact StrsAt.nil)
        have HW9 := hide hW9
        subst hne
        clear hje hrs2 hpre2 hfe hsrc hall hW9 hb9 hg9 hz0e
        go_wp2_with fail
        rw [HW9.out]
        go_ret3
        exact HP.out
      · have hlp : 0 < ls.length := List.length_pos_iff.2 hne
        have hls8 : ls.length ≤ 8 := by have := HRS.out.len; omega
        have T0 : ((ls.length : Int) == 0) = false := beq_eq_false_iff_ne.2 (by omega)
        have HZIP := hide (zip_any f t (zs.map (gOf v)) A cc ls W hrs2.reads hne (by omega) hall hf (by omega) (fun s hs => by have := hrs2.short s hs; omega) (by have := hrs2.sum; have := hrs2.len; omega))
        have hws := hsrc.2.size
        have HP := hide (fun (A9 : Option Addr) (c9 : Nat) (rows : List RwM) (w9 : World) (h1 : Cov (zs.map (gOf v)) f (t + 1) (rows.map RwM.rw)) (h2 : rows ≠ []) (h3 : rows.length ≤ 4001) (h4 : RwsAt w9 (fun b => W.heap.size ≤ b ∧ b < w9.heap.size) A9 rows) (h5 : Below W.heap.size W w9) => show RowsPost v n' L c M f t w (.returned (.tuple #[.slice A9 rows.length c9, .slice ZA zs.length zc, .int .i64 0])) w9 from
          ⟨zs, HZ.out.2.2.1, HZ.out.2.2.2, HZ.out.2.1, HZ.out.1, .inr (.inl ⟨hfe, hroom2, A9, c9, rows, ZA, zc, rfl, ⟨h4.row.more fun b hb => ⟨Nat.le_trans hws hb.1, hb.2⟩, fun r hr => (h4.each r hr).more fun b hb => ⟨Nat.le_trans hws hb.1, hb.2⟩⟩, HZO2.out.ats.step h5, h1, h2, h3, hsrc.below h5⟩)⟩)
        clear hje hrs2 hpre2 hfe hsrc hall hne
        go_wp2_with (go_at_call 132; refine HZIP.out.mono ?_; rintro e w9 ⟨A9, c9, rows, rfl, h1, h2, h3, h4, h5⟩; have HP9 := hide (HP.out A9 c9 rows w9 h1 h2 h3 h4 h5); clear h1 h2 h4 h5)
        go_ret3
        exact HP9.out

end Go.Proofs.YtaaplalfggofiaaGreatDoor
