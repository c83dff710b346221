/-
  Several texts in one: AgrE, ERead, ETyp. Each says at its head what it holds.
-/
import Derived.Test.YtaaplalfggofiaaGreatDoorEC26
import Derived.Test.YtaaplalfggofiaaGreatDoorEC27
import Derived.Test.YtaaplalfggofiaaGreatDoorEC20

/-
  event.agrees: whether all nodes of a signal have a kind and a width.
-/
namespace Go.Proofs.YtaaplalfggofiaaGreatDoor
open Go.RowKit

def AgrCE (x k d : Int) (n : Nd) : Prop := ∀ w : World, TreesAt w (Lo w.heap.size) n.KA n.kids → Calls Tryz.prog 155 #[.agg (cNd n).toArray, .int .i64 x, .int .i64 k, .int .i64 d] w (RetV (.bool (agrF x k d n)) w)

set_option maxRecDepth 100000 in
theorem agr1E_any (x k d : Int) (n : Nd) (ih : AgrCE x k d n) (B1 B2 B3 : Nat) (w : World) (ht : TreesAt w (Lo w.heap.size) n.KA n.kids) (hb : AgBox w B1 B2 B3 x k d) :
    Calls Tryz.prog 209 #[.agg (cNd n).toArray, .pointer (some ⟨B1, 0, none⟩), .pointer (some ⟨B2, 0, none⟩), .pointer (some ⟨B3, 0, none⟩)] w (RetV (.bool (!agrF x k d n)) w) := by
  obtain ⟨W0, hW0⟩ : ∃ W0, w.alloc (.cells (cNd n).toArray 28) = W0 := ⟨_, rfl⟩
  have g0 := new_at hW0
  have hb0 : Below w.heap.size w W0 := by rw [← hW0]; exact (Below.refl _ _).alloc (Nat.le_refl _) _
  have hcall := ih W0 (ht.grow hb0)
  have hbx := hb.below hb0
  generalize agrF x k d n = r at *
  obtain ⟨m1, m2, m3, m4, m5, m6, m7, m8, mK, mc, ml⟩ := n
  unfold cNd at hcall hW0 g0 ⊢
  have HC := hide hcall
  have HW0 := hide hW0
  have HB0 := hide hb0
  obtain ⟨y0, y1, y2, y3, y4, y5, y6, y7, y8⟩ := box9 g0
  have z1 := box_cell hbx.h1
  have z2 := box_cell hbx.h2
  have z3 := box_cell hbx.h3
  clear hcall hW0 g0 hb0 ht ih hb hbx
  go_enter Tryz.func209, Tryz.ntmps209
  go_upto_region 1 with (fail)
  rw [HW0.out]
  go_wp2_with (go_at_call 155; refine HC.out.mono ?_; rintro e w2 ⟨rfl, hb2⟩; have HB2 := hide hb2; clear hb2)
  go_ret
  exact ⟨rfl, bstep HB0.out HB2.out⟩

set_option maxRecDepth 100000 in
set_option maxHeartbeats 4000000 in
theorem agrIdxE_any (x k d : Int) (A : Option Addr) (c : Nat) (l : List Nd) (ih : ∀ n ∈ l, AgrCE x k d n) (B1 B2 B3 : Nat) (w : World) (ht : TreesAt w (Lo w.heap.size) A l) (hb : AgBox w B1 B2 B3 x k d) :
    Calls Tryz.prog 201 #[.slice A l.length c, .func (.func 209) #[] #[.pointer (some ⟨B1, 0, none⟩), .pointer (some ⟨B2, 0, none⟩), .pointer (some ⟨B3, 0, none⟩)]] w (RetIdxN w (l.all (agrF x k d))) := by
  have hl := ht.len
  have HT := hide ht
  have HB := hide hb
  have HIH := hide ih
  clear ht hb ih
  go_enter Tryz.func201, Tryz.ntmps201
  go_wp2_with fail
  go_loopw [8] (fun i wr => AiRel x k d l w i wr) (fun i _ => l.length - (intOf i).toNat)
  case atStart => exact ⟨0, Nat.zero_le _, rfl, rfl, Below.refl _ _⟩
  case round =>
    obtain ⟨j, hj, rfl, hok, hbr⟩ := hrel
    have HOK := hide hok
    have HBR := hide hbr
    clear hok hbr
    by_cases hlt : j < l.length
    · have hT := HT.out.grow HBR.out
      obtain ⟨bk, ok, rfl, hbk, hc⟩ := hT.row.at_ hlt
      have hmem := List.getElem_mem hlt
      have hkid := hT.each _ hmem
      have hcall := agr1E_any x k d _ (HIH.out _ hmem) B1 B2 B3 wr hkid (HB.out.below HBR.out)
      have HTK := hide (show (l.take (j + 1)).all (agrF x k d) = ((l.take j).all (agrF x k d) && agrF x k d l[j]) by rw [List.take_succ_eq_append_getElem hlt, List.all_append]; simp)
      have HBAD := hide (show agrF x k d l[j] = false → l.all (agrF x k d) = false from fun h => by
        rw [List.all_eq_false]
        exact ⟨_, hmem, by simp [h]⟩)
      generalize l[j] = q at *
      generalize agrF x k d q = r at *
      obtain ⟨n1, n2, n3, n4, n5, n6, n7, n8, nK, nc, nl⟩ := q
      unfold cNd at hc hcall
      obtain ⟨c0, c1, c2, c3, c4, c5, c6, c7, c8⟩ := nine hc
      have HC := hide hcall
      clear hc hkid hmem hT hcall
      cases r with
      | true =>
        have HN := hide (show (l.take (j + 1)).all (agrF x k d) = true by rw [HTK.out, HOK.out]; rfl)
        clear HTK HBAD
        go_wp2_with (go_at_call 209; refine HC.out.mono ?_; rintro e w2 ⟨rfl, hb2⟩; have HB2 := hide hb2; clear hb2)
        exact ⟨⟨j + 1, hlt, by go_num, HN.out, bstep HBR.out HB2.out⟩, by simp [intOf]; omega⟩
      | false =>
        have HN := hide (HBAD.out rfl)
        clear HTK HBAD
        go_wp2_with (go_at_call 209; refine HC.out.mono ?_; rintro e w2 ⟨rfl, hb2⟩; have HB2 := hide hb2; clear hb2)
        go_ret
        exact ⟨j, rfl, by rw [HN.out]; exact decide_eq_true (by omega), bstep HBR.out HB2.out⟩
    · have hke : j = l.length := by omega
      have HE := hide (show l.all (agrF x k d) = true by have := HOK.out; rw [hke, List.take_length] at this; exact this)
      clear hke
      go_wp2_with fail
      go_ret
      exact ⟨-1, rfl, by rw [HE.out]; rfl, HBR.out⟩
theorem agrHasE_any (x k d : Int) (A : Option Addr) (c : Nat) (l : List Nd) (ih : ∀ n ∈ l, AgrCE x k d n) (B1 B2 B3 : Nat) (w : World) (ht : TreesAt w (Lo w.heap.size) A l) (hb : AgBox w B1 B2 B3 x k d) :
    Calls Tryz.prog 143 #[.slice A l.length c, .func (.func 209) #[] #[.pointer (some ⟨B1, 0, none⟩), .pointer (some ⟨B2, 0, none⟩), .pointer (some ⟨B3, 0, none⟩)]] w (RetV (.bool (!l.all (agrF x k d))) w) := by
  go_enter Tryz.func143, Tryz.ntmps143
  go_wp2_with fail
  refine (agrIdxE_any x k d A c l ih B1 B2 B3 _ ht hb).mono ?_
  rintro e w1 ⟨n, rfl, hn, hb1⟩
  have HN := hide hn
  clear hn
  go_wp2_with fail
  go_ret
  exact ⟨by rw [← HN.out]; rfl, hb1⟩

set_option maxRecDepth 100000 in
set_option maxHeartbeats 4000000 in
theorem agreesE_any (x k d : Int) (n : Nd) : AgrCE x k d n := by
  induction n using Nd.ind with
  | h n ih =>
  intro w ht
  have IH := hide ih
  clear ih
  obtain ⟨kind, at_, name, value, a, b, c, d', KA, kc, kids⟩ := n
  unfold Nd.KA Nd.kids at ht
  unfold cNd
  have hself := agrF_mk x k d kind at_ name value a b c d' KA kc kids
  have hl := ht.len
  obtain ⟨W0, hW0⟩ : ∃ W0, (((w.alloc (.cells #[.int .i64 kind, .int .i64 at_, .string name, .string value, .int .i64 a, .int .i64 b, .int .i64 c, .int .i64 d', .slice KA kids.length kc] 28)).alloc (intO x)).alloc (intO k)).alloc (intO d) = W0 := ⟨_, rfl⟩
  obtain ⟨p0, p1, p2, p3, hb0⟩ := chain4 _ _ _ _ _ hW0
  have HT := hide (ht.grow hb0)
  have HG0 := hide p0
  have HBX := hide (show AgBox W0 (w.heap.size + 1) (w.heap.size + 1 + 1) (w.heap.size + 1 + 1 + 1) x k d from ⟨p1, p2, p3⟩)
  have HB0 := hide hb0
  have HW0 := hide hW0
  obtain ⟨y0, y1, y2, y3, y4, y5, y6, y7, y8⟩ := box9 p0
  have z1 := box_cell p1
  have z2 := box_cell p2
  have z3 := box_cell p3
  have HKID := hide (agrHasE_any x k d KA kc kids (fun m hm => IH.out m hm) _ _ _ W0 HT.out HBX.out)
  clear ht hb0 hW0 p0 p1 p2 p3
  have HQ := hide (show ∀ (o : Bool) (wr : World), agrF x k d (.mk kind at_ name value a b c d' KA kc kids) = o → Below W0.heap.size W0 wr → RetV (.bool (agrF x k d (.mk kind at_ name value a b c d' KA kc kids))) w (.returned (.bool o)) wr from fun o wr h hb => ⟨by rw [h], bstep HB0.out hb⟩)
  have HEQ := hide hself
  clear hself
  go_enter Tryz.func155, Tryz.ntmps155
  go_upto_region 1 with (fail)
  rw [show (((w.alloc (.cells #[.int .i64 kind, .int .i64 at_, .string name, .string value, .int .i64 a, .int .i64 b, .int .i64 c, .int .i64 d', .slice KA kids.length kc] 28)).alloc (.cells #[.int .i64 x] 3)).alloc (.cells #[.int .i64 k] 3)).alloc (.cells #[.int .i64 d] 3) = W0 from HW0.out]
  by_cases hbad : kind = 1 ∧ a = x ∧ (c ≠ k ∨ b ≠ d)
  · obtain ⟨rfl, rfl, hcd⟩ := hbad
    have HR := hide (HQ.out false W0 (HEQ.out.trans (by rcases hcd with h | h <;> simp [h])) (Below.refl _ _))
    clear HQ HEQ
    by_cases h1 : c = k
    · have h2 : b ≠ d := hcd.resolve_left (fun h => h h1)
      have T1 : (b != d) = true := by simp [h2]
      subst h1
      clear hcd h2
      go_wp2_with fail
      go_ret
      exact HR.out
    · have T1 : (c != k) = true := by simp [h1]
      clear hcd h1
      go_wp2_with fail
      go_ret
      exact HR.out
  · have HR := hide (fun wr hb => HQ.out (kids.all (agrF x k d)) wr (HEQ.out.trans (by
      have : (!(decide (kind = 1) && decide (a = x) && (decide (c ≠ k) || decide (b ≠ d)))) = true := by
        rw [Bool.not_eq_true', Bool.eq_false_iff]
        intro h
        rw [Bool.and_eq_true, Bool.and_eq_true, Bool.or_eq_true, decide_eq_true_eq, decide_eq_true_eq, decide_eq_true_eq, decide_eq_true_eq] at h
        exact hbad ⟨h.1.1, h.1.2, h.2⟩
      rw [this, Bool.true_and])) hb)
    clear HQ HEQ
    by_cases h1 : kind = 1
    · subst h1
      by_cases h2 : a = x
      · subst h2
        obtain ⟨h3, h4⟩ : c = k ∧ b = d := ⟨Classical.byContradiction fun h => hbad ⟨rfl, rfl, .inl h⟩, Classical.byContradiction fun h => hbad ⟨rfl, rfl, .inr h⟩⟩
        subst h3 h4
        clear hbad
        go_wp2_with (go_at_call 143; refine HKID.out.mono ?_; rintro e w2 ⟨rfl, hb2⟩; have HB2 := hide hb2; clear hb2)
        go_ret
        exact HR.out _ HB2.out
      · have T1 : (a == x) = false := beq_eq_false_iff_ne.2 h2
        clear hbad h2
        go_wp2_with (go_at_call 143; refine HKID.out.mono ?_; rintro e w2 ⟨rfl, hb2⟩; have HB2 := hide hb2; clear hb2)
        go_ret
        exact HR.out _ HB2.out
    · have T1 : (kind == 1) = false := beq_eq_false_iff_ne.2 h1
      clear hbad h1
      go_wp2_with (go_at_call 143; refine HKID.out.mono ?_; rintro e w2 ⟨rfl, hb2⟩; have HB2 := hide hb2; clear hb2)
      go_ret
      exact HR.out _ HB2.out

end Go.Proofs.YtaaplalfggofiaaGreatDoor

/-
  event.readable: no error, where all signals of a tree fit and the source has no limit.
-/
namespace Go.Proofs.YtaaplalfggofiaaGreatDoor
open Go.RowKit

def EdRel (v : Wv) (c : Int) (M : Nat) (f t : Int) (zs : List Int) (w : World) (N : Nat) (o : Obj) (zb : Nat) (ZA : Option Addr) (zc : Nat) (i : Value) (wr : World) : Prop :=
  ∃ j : Nat, j ≤ zs.length ∧ i = .int .i64 (j : Int) ∧ SrcTo w M v (-1) (c + allC v f t (zs.take j)) wr ∧ wr.heap[N]? = some o ∧ OwnInt wr zb ZA zc zs
def EdPost (v : Wv) (c : Int) (M : Nat) (w : World) (e : Ending) (w' : World) : Prop := e = .returned (.int .i64 0) ∧ ∃ c', 0 ≤ c' ∧ c' ≤ c + 192 ∧ SrcTo w M v (-1) c' w'

set_option maxRecDepth 100000 in
set_option maxHeartbeats 8000000 in
theorem eread_ok (v : Wv) (c : Int) (M : Nat) (n : Nd) (f t : Int) (w : World) (h : SourceAt w M v (-1) c) (hv : SmallOk v) (ht : TreesAt w (Un M w.heap.size) n.KA n.kids) (hok : okF n) (h60 : nodesF n ≤ 60) (hev : ∀ x ∈ sigF n, ∀ k d, agrF x k d n = true → k ≠ 3)
    (h0 : 0 ≤ c) (h1 : c ≤ 50000) (hf : 0 ≤ f) (hft : f ≤ t) (htf : t ≤ v.fin) (hfit : ∀ x ∈ sigF n, sigE v n x = 0) :
    Calls Tryz.prog 79 #[srcV M, .agg (cNd n).toArray, .int .i64 f, .int .i64 t] w (EdPost v c M w) := by
  have hsn := sig_nodes n
  have hsl : (sigF n).length ≤ 1000000 := by omega
  have HSIG := hide (fun (W : World) (h2 : TreesAt W (Lo W.heap.size) n.KA n.kids) => signals2_any n W h2 hok hsl)
  have HAGR := hide (fun (x k d : Int) => agreesE_any x k d n)
  obtain ⟨n', hn'⟩ : ∃ n', n' = n := ⟨_, rfl⟩
  have HEV := hide (show ∀ x ∈ sigF n', ∀ k d, agrF x k d n' = true → k ≠ 3 by rw [hn']; exact hev)
  have HFIT := hide (show ∀ x ∈ sigF n', sigE v n' x = 0 by rw [hn']; exact hfit)
  have HSIG2 := hide (show ∀ (W : World) (h2 : TreesAt W (Lo W.heap.size) n.KA n.kids), Calls Tryz.prog 129 #[.agg (cNd n).toArray] W (SigsPost2 n' W) by rw [hn']; exact HSIG.out)
  have HAGR2 := hide (show ∀ (x k d : Int) (W : World), TreesAt W (Lo W.heap.size) n.KA n.kids → Calls Tryz.prog 155 #[.agg (cNd n).toArray, .int .i64 x, .int .i64 k, .int .i64 d] W (RetV (.bool (agrF x k d n')) W) by rw [hn']; exact fun x k d => HAGR.out x k d)
  clear HSIG HAGR hn' hev hfit hsn hsl h60 hok
  have hM := h.lt
  obtain ⟨kind, at_, name, value, a, b, c0, d, KA, kc, kids⟩ := n
  unfold Nd.KA Nd.kids at ht HSIG2 HAGR2
  unfold cNd at HSIG2 HAGR2 ⊢
  dsimp only at HSIG2 HAGR2
  obtain ⟨W0, hW0⟩ : ∃ W0, w.alloc (.cells #[.int .i64 kind, .int .i64 at_, .string name, .string value, .int .i64 a, .int .i64 b, .int .i64 c0, .int .i64 d, .slice KA kids.length kc] 28) = W0 := ⟨_, rfl⟩
  have g0 := new_at hW0
  have hb0 : Below w.heap.size w W0 := by rw [← hW0]; exact (Below.refl _ _).alloc (Nat.le_refl _) _
  have HT := hide (tree_below ht hb0)
  have HTW := hide ht
  have HS0 := hide (SrcTo.start h hb0)
  have HG0 := hide g0
  have HB0 := hide hb0
  have HW0 := hide hW0
  have HSC := hide (HSIG2.out W0 (HT.out.more fun _ => un_lo))
  obtain ⟨y0, y1, y2, y3, y4, y5, y6, y7, y8⟩ := box9 g0
  have hz0w : w.heap.size < W0.heap.size := box_lt g0
  clear ht g0 hb0 hW0 h HSIG2
  unfold srcV
  have hmk := meth_kind (some ⟨M, 0, none⟩)
  go_enter Tryz.func79, Tryz.ntmps79
  go_upto_region 1 with (fail)
  rw [HW0.out]
  go_upto_region 2 with (go_at_call 129; refine HSC.out.mono ?_; rintro e w1 ⟨ZA, zc, zs, rfl, hzi, hzl, hzp, hzm, hzb, hzn, hzI, zb, hzb2, hzo⟩; have HZ := hide (And.intro hzp (And.intro hzm (And.intro hzn hzI))); have HZB := hide hzb; have HZO := hide hzo; clear hzi hzp hzm hzn hzI hzb hzo)
  have hzs := HZB.out.size
  have HS1 := hide (HS0.out.below HZB.out)
  have HG1 := hide ((HZB.out.block _ hz0w).trans HG0.out)
  have hfz : ∀ x ∈ zs, sigE v n' x = 0 := fun x hx => HFIT.out x ((HZ.out.2.1 x (HZ.out.2.2.2 x hx)).1 hx)
  have HFZ := hide hfz
  have hz8 : zs.length ≤ 8 := by
    have := nodup_few v.sigs.length (zs := zs) HZ.out.2.2.1 (fun x hx => ⟨(sigE_zero (hfz x hx)).1, (sigE_zero (hfz x hx)).2.1⟩)
    have h8 := hv.len
    omega
  have hcb : allC v f t zs ≤ 24 * 8 := by
    have := allC_le (v := v) (f := f) (t := t) (zs := zs) (fun x hx => oneC_fit hv (hfz x hx))
    omega
  clear y0 y1 y2 y3 y4 y5 y6 y7 y8 hfz
  go_loopw [17] (fun i wr => EdRel v c M f t zs w w.heap.size (.cells #[.int .i64 kind, .int .i64 at_, .string name, .string value, .int .i64 a, .int .i64 b, .int .i64 c0, .int .i64 d, .slice KA kids.length kc] 28 (0, 0)) zb ZA zc i wr) (fun i _ => zs.length - (intOf i).toNat)
  case atStart => exact ⟨0, Nat.zero_le _, rfl, by simpa [allC] using HS1.out, HG1.out, HZO.out⟩
  case round =>
    obtain ⟨W, rfl⟩ : ∃ w2 : World, w2 = wr := ⟨_, rfl⟩
    obtain ⟨j, hj, rfl, hrs, hbx, hzo⟩ := hrel
    have hcp := allC_pos v f t (zs.take j)
    have hct := allC_take v f t zs j
    have HSRC := hide hrs
    have HBX := hide hbx
    have HZO2 := hide hzo
    have hfin := hv.fin.2
    by_cases hlt : j < zs.length
    · obtain ⟨xb, xo, rfl, hxb, hxc⟩ := hzo.ats.at_ hlt
      have hmem : zs[j] ∈ zs := List.getElem_mem hlt
      have hxI := HZ.out.2.2.2 _ hmem
      have htk : zs.take (j + 1) = zs.take j ++ [zs[j]] := List.take_succ_eq_append_getElem hlt
      have hsg0 := HFZ.out _ hmem
      generalize zs[j] = x at *
      obtain ⟨hx0, hxr, _⟩ := sigE_zero hsg0
      have hone := oneC_pos v f t x
      have hcn : allC v f t (zs.take j) + oneC v f t x ≤ allC v f t zs := by
        have := allC_take v f t zs (j + 1)
        rwa [htk, allC_snoc] at this
      obtain ⟨cj, hcj⟩ : ∃ cj, c + allC v f t (zs.take j) = cj := ⟨_, rfl⟩
      rw [hcj] at HSRC
      have HTK := hide htk
      clear hrs hbx hzo htk
      obtain ⟨k, rfl⟩ : ∃ k : Nat, x = (k : Int) := ⟨x.toNat, by omega⟩
      have hkl : k < v.sigs.length := by omega
      have hsk : v.sigs[k]? = some (sgnAt v (k : Int)) := by
        have := (sgn_mem (v := v) (x := (k : Int)) (by omega) (by omega)).1
        simpa using this
      have hsm := hv.each _ (List.mem_of_getElem? hsk)
      have hq : callC (-1) cj (k : Int) v.sigs.length = 0 := by unfold callC; rw [if_neg (by omega), if_neg (by omega)]
      have HKE := hide (kind_ok M v (-1) cj k W HSRC.out.1 (by omega) (by omega) hq _ hsk)
      have hagr : agrF (k : Int) (sgnAt v (k : Int)).kind (sgnAt v (k : Int)).width n' = true := by
        unfold sigE at hsg0
        rw [if_neg (by omega)] at hsg0
        cases hg : agrF (k : Int) (sgnAt v (k : Int)).kind (sgnAt v (k : Int)).width n'
        · rw [hg] at hsg0
          simp at hsg0
        · rfl
      have honeE : oneC v f t (k : Int) = 4 + ((beh (sgnAt v (k : Int)).chs f t).length : Int) := rfl
      have hk3 := HEV.out (k : Int) ((HZ.out.2.1 _ hxI).1 hmem) (sgnAt v (k : Int)).kind (sgnAt v (k : Int)).width hagr
      generalize hsq : sgnAt v (k : Int) = s at *
      have T3 : (s.kind == 3) = false := beq_eq_false_iff_ne.2 hk3
      have HAK := hide hagr
      clear hagr hsq hsg0
      go_wp2_with fail
      refine HKE.out.mono ?_
      rintro e w2 ⟨rfl, hs2⟩
      have HS2 := hide (HSRC.out.trans hs2)
      have hbx2 := (hs2.2.block _ (box_lt HBX.out) (fun e => by injection e with e; omega)).trans HBX.out
      obtain ⟨y0, y1, y2, y3, y4, y5, y6, y7, y8⟩ := box9 hbx2
      have HBX2 := hide hbx2
      have HBT2 := hide hs2.2
      clear hs2 hbx2
      have htr := tree_src (L := -1) (c := cj + 1) HTW.out HS2.out
      have HAG := hide (HAGR2.out (k : Int) s.kind s.width w2 (htr.more fun _ => un_lo))
      rw [HAK.out] at HAG
      have HOF := hide (fun (w3 : World) (hs3 : SrcTo w M v (-1) (cj + 1) w3) => show Calls Tryz.prog 131 #[.iface 38 (.pointer (some ⟨M, 0, none⟩)), .int .i64 (k : Int), .int .i64 f, .int .i64 t] w3 (OfPost v (-1) (cj + 1) M s f t w3) from
        of_any v (-1) (cj + 1) M k s f t w3 hs3.1 hsk hsm.sorted (by have := hsm.len; omega) (fun h9 => by have := hsm.width.1 h9; omega) hk3 (by omega) (by omega) hf hft htf (by omega))
      go_wp2_with (go_at_call 155; refine HAG.out.mono ?_; rintro e w3 ⟨rfl, hb3⟩; have HB3 := hide hb3; have HS3 := hide (HS2.out.below hb3); clear hb3 y0 y1 y2 y3 y4 y5 y6 y7 y8)
      refine (HOF.out w3 HS3.out).mono ?_
      rintro e w4 (⟨hr4, A4, c4, l4, rfl, ho4, hsp4, hl4, hs4⟩ | ⟨hL4, hr4, rfl, ⟨c9, hs4⟩⟩)
      · have hbw4 : But W.heap.size (some M) W w4 := HBT2.out.trans (((But.of HB3.out).mono HBT2.out.size).trans (hs4.2.mono (Nat.le_trans HBT2.out.size HB3.out.size)))
        have hcnt : cj + 1 + ((beh s.chs f t).length : Int) + 3 = c + allC v f t (zs.take (j + 1)) := by rw [HTK.out, allC_snoc, honeE]; omega
        have hsrc4 := HS3.out.trans hs4
        rw [hcnt] at hsrc4
        have hbx4 := (hbw4.block _ (box_lt HBX.out) (fun e => by injection e with e; omega)).trans HBX.out
        have hzo4 : OwnInt w4 zb (some ⟨xb, xo, none⟩) zc zs := own_block HZO2.out fun g hg => hbw4.block g (own_ob HZO2.out g hg).2 (fun e => by injection e with e; have := (own_ob HZO2.out g hg).1; have := HB0.out.size; omega)
        have HR := hide (And.intro hsrc4 (And.intro hbx4 hzo4))
        clear hbw4 hsrc4 hbx4 hzo4 ho4 hsp4 hs4 hr4 hcnt
        go_wp2_with fail
        exact ⟨⟨j + 1, hlt, by go_num, HR.out⟩, by simp [intOf]; omega⟩
      · omega
    · have hje : j = zs.length := by omega
      rw [hje, List.take_length] at HSRC
      have HF := hide (show EdPost v c M w (.returned (.int .i64 0)) W from ⟨rfl, c + allC v f t zs, by have := allC_pos v f t zs; omega, by omega, HSRC.out⟩)
      clear hje hrs hbx hzo
      go_wp2_with fail
      go_ret
      exact HF.out

end Go.Proofs.YtaaplalfggofiaaGreatDoor

/-
  event.typed; event.isEvent at an event of the kinds without conditions.
-/
namespace Go.Proofs.YtaaplalfggofiaaGreatDoor
open Go.RowKit

def typB : Option (Int × Int) → Int → Bool
  | none, _ => false
  | some (k, q), wd => wd == 0 || (k == 0 && q == wd)

set_option maxRecDepth 100000 in
set_option maxHeartbeats 8000000 in
theorem typedE_any (n : Nd) (wd : Int) (w : World) (ht : TreesAt w (Lo w.heap.size) n.KA n.kids) :
    Calls Tryz.prog 88 #[.agg (cNd n).toArray, .int .i64 wd] w (RetV (.bool (typB (typeF n) wd)) w) := by
  have HTY := hide (fun (W : World) (hb : Below w.heap.size w W) => type_any n W (ht.grow hb))
  generalize typeF n = r at *
  clear ht
  obtain ⟨kind, at_, name, value, a, b, c, d, KA, kc, kids⟩ := n
  unfold cNd at *
  obtain ⟨W0, hW0⟩ : ∃ W0, w.alloc (.cells #[.int .i64 kind, .int .i64 at_, .string name, .string value, .int .i64 a, .int .i64 b, .int .i64 c, .int .i64 d, .slice KA kids.length kc] 28) = W0 := ⟨_, rfl⟩
  have g0 := new_at hW0
  have hb0 : Below w.heap.size w W0 := by rw [← hW0]; exact (Below.refl _ _).alloc (Nat.le_refl _) _
  have HTC := hide (HTY.out W0 hb0)
  have HB0 := hide hb0
  have HW0 := hide hW0
  obtain ⟨y0, y1, y2, y3, y4, y5, y6, y7, y8⟩ := box9 g0
  clear hW0 g0 hb0 HTY
  cases r with
  | none =>
    unfold typV at HTC
    dsimp only at HTC
    go_enter Tryz.func88, Tryz.ntmps88
    go_upto_region 1 with (fail)
    rw [HW0.out]
    go_wp2_with (go_at_call 35; refine HTC.out.mono ?_; rintro e w2 ⟨rfl, hb2⟩; have HB2 := hide hb2; clear hb2)
    go_ret
    exact ⟨rfl, bstep HB0.out HB2.out⟩
  | some p =>
    obtain ⟨k, q⟩ := p
    unfold typV at HTC
    dsimp only at HTC
    by_cases w0 : wd = 0
    · subst w0
      go_enter Tryz.func88, Tryz.ntmps88
      go_upto_region 1 with (fail)
      rw [HW0.out]
      go_wp2_with (go_at_call 35; refine HTC.out.mono ?_; rintro e w2 ⟨rfl, hb2⟩; have HB2 := hide hb2; clear hb2)
      go_ret
      exact ⟨rfl, bstep HB0.out HB2.out⟩
    · have T0 : (wd == 0) = false := beq_eq_false_iff_ne.2 w0
      by_cases k0 : k = 0
      · subst k0
        have HE := hide (show typB (some (0, q)) wd = (q == wd) by show (wd == 0 || ((0 : Int) == 0 && q == wd)) = _; rw [T0]; rfl)
        clear w0
        go_enter Tryz.func88, Tryz.ntmps88
        go_upto_region 1 with (fail)
        rw [HW0.out]
        go_wp2_with (go_at_call 35; refine HTC.out.mono ?_; rintro e w2 ⟨rfl, hb2⟩; have HB2 := hide hb2; clear hb2)
        go_ret
        rw [HE.out]
        exact ⟨rfl, bstep HB0.out HB2.out⟩
      · have T1 : (k == 0) = false := beq_eq_false_iff_ne.2 k0
        have HE := hide (show typB (some (k, q)) wd = false by show (wd == 0 || (k == 0 && q == wd)) = _; rw [T0, T1]; rfl)
        clear w0 k0
        go_enter Tryz.func88, Tryz.ntmps88
        go_upto_region 1 with (fail)
        rw [HW0.out]
        go_wp2_with (go_at_call 35; refine HTC.out.mono ?_; rintro e w2 ⟨rfl, hb2⟩; have HB2 := hide hb2; clear hb2)
        go_ret
        rw [HE.out]
        exact ⟨rfl, bstep HB0.out HB2.out⟩

set_option maxRecDepth 100000 in
set_option maxHeartbeats 8000000 in
theorem isev_simple (kind at_ : Int) (name value : ByteArray) (a b c d : Int) (KA : Option Addr) (kc : Nat) (x : Nd) (w : World) (ht : TreesAt w (Lo w.heap.size) KA [x]) (hk : 37 ≤ kind ∧ kind ≤ 41) :
    Calls Tryz.prog 78 #[.agg #[.int .i64 kind, .int .i64 at_, .string name, .string value, .int .i64 a, .int .i64 b, .int .i64 c, .int .i64 d, .slice KA 1 kc]] w (RetV (.bool (typB (typeF x) (if kind = 41 then 0 else 1))) w) := by
  obtain ⟨W0, hW0⟩ : ∃ W0, w.alloc (.cells #[.int .i64 kind, .int .i64 at_, .string name, .string value, .int .i64 a, .int .i64 b, .int .i64 c, .int .i64 d, .slice KA 1 kc] 28) = W0 := ⟨_, rfl⟩
  have g0 := new_at hW0
  have hb0 : Below w.heap.size w W0 := by rw [← hW0]; exact (Below.refl _ _).alloc (Nat.le_refl _) _
  have hT := ht.grow hb0
  obtain ⟨bk, ok, rfl, hbk, hcx⟩ := hT.row.at_ (show 0 < [x].length by simp)
  have hkid := hT.each x (by simp)
  have HTY := hide (fun (wd : Int) (W : World) (hb : Below W0.heap.size W0 W) => typedE_any x wd W (hkid.grow hb))
  have HB0 := hide hb0
  have HG0 := hide g0
  have HW0 := hide hW0
  obtain ⟨y0, y1, y2, y3, y4, y5, y6, y7, y8⟩ := box9 g0
  simp only [List.getElem_cons_zero] at hcx
  generalize typeF x = r at *
  clear hW0 g0 hb0 ht hT hkid
  obtain ⟨m1, m2, m3, m4, m5, m6, m7, m8, mK, mc, ml⟩ := x
  unfold cNd at hcx HTY
  obtain ⟨c0, c1, c2, c3, c4, c5, c6, c7, c8⟩ := nine hcx
  clear hcx
  simp only [Nat.zero_mul, Nat.add_zero] at c0 c1 c2 c3 c4 c5 c6 c7 c8
  obtain ⟨W1, hW1⟩ : ∃ W1, W0.alloc (.cells #[.int .i64 m1, .int .i64 m2, .string m3, .string m4, .int .i64 m5, .int .i64 m6, .int .i64 m7, .int .i64 m8, .slice mK ml.length mc] 28) = W1 := ⟨_, rfl⟩
  have hb1 : Below W0.heap.size W0 W1 := by rw [← hW1]; exact (Below.refl _ _).alloc (Nat.le_refl _) _
  have g1 := new_at hW1
  have HT1 := hide (fun wd => HTY.out wd W1 hb1)
  have HB1 := hide (bstep HB0.out hb1)
  have HY := hide (box9 ((hb1.block _ (box_lt HG0.out)).trans HG0.out))
  have HG1 := hide g1
  have HW1 := hide hW1
  clear hb1 g1 hW1 HTY
  go_enter Tryz.func78, Tryz.ntmps78
  go_upto_region 1 with (fail)
  rw [HW0.out]
  have T44 : (kind == 44) = false := beq_eq_false_iff_ne.2 (by omega)
  go_upto_region 6 with (fail)
  rw [HW1.out]
  obtain ⟨x0, x1, x2, x3, x4, x5, x6, x7, x8⟩ := box9 HG1.out
  clear y0 y1 y2 y3 y4 y5 y6 y7 y8 c0 c1 c2 c3 c4 c5 c6 c7 c8
  obtain ⟨y0, y1, y2, y3, y4, y5, y6, y7, y8⟩ := HY.out
  have hkk : kind = 37 ∨ kind = 38 ∨ kind = 39 ∨ kind = 40 ∨ kind = 41 := by omega
  clear hk T44
  rcases hkk with rfl | rfl | rfl | rfl | rfl
  · go_wp2_with fail
    refine (HT1.out 1).mono ?_
    rintro e w2 ⟨rfl, hb2⟩
    have HB2 := hide (bstep HB1.out hb2)
    clear hb2
    go_wp2_with fail
    go_ret
    exact ⟨rfl, HB2.out⟩
  · go_wp2_with fail
    refine (HT1.out 1).mono ?_
    rintro e w2 ⟨rfl, hb2⟩
    have HB2 := hide (bstep HB1.out hb2)
    clear hb2
    go_wp2_with fail
    go_ret
    exact ⟨rfl, HB2.out⟩
  · go_wp2_with fail
    refine (HT1.out 1).mono ?_
    rintro e w2 ⟨rfl, hb2⟩
    have HB2 := hide (bstep HB1.out hb2)
    clear hb2
    go_wp2_with fail
    go_ret
    exact ⟨rfl, HB2.out⟩
  · go_wp2_with fail
    refine (HT1.out 1).mono ?_
    rintro e w2 ⟨rfl, hb2⟩
    have HB2 := hide (bstep HB1.out hb2)
    clear hb2
    go_wp2_with fail
    go_ret
    exact ⟨rfl, HB2.out⟩
  · go_wp2_with fail
    refine (HT1.out 0).mono ?_
    rintro e w2 ⟨rfl, hb2⟩
    have HB2 := hide (bstep HB1.out hb2)
    clear hb2
    go_wp2_with fail
    go_ret
    exact ⟨rfl, HB2.out⟩

end Go.Proofs.YtaaplalfggofiaaGreatDoor
