/-
  Several texts in one: LawValues51. Each says at its head what it holds.
-/
import Derived.Test.YtdlebcijgdkfjaaGreatDoorCV30
import Derived.Test.YtdlebcijgdkfjaaGreatDoorCV31
import Derived.Test.YtdlebcijgdkfjaaGreatDoorCV27
import Derived.Test.YtdlebcijgdkfjaaGreatDoorCV8

/-
  wavestorelaw51.ConditionValues, walked.
-/
namespace Go.Proofs.YtdlebcijgdkfjaaGreatDoor
open Go.RowKit

/-- the error of a value -/
def ValE (v : Wv) (n : Nd) (f t : Int) (er : Int) : Prop := (¬ inR v f t ∧ er = 2) ∨ (inR v f t ∧ typeF n = none ∧ er = 7) ∨ (inR v f t ∧ (∃ p, typeF n = some p) ∧ ∃ zs, SigsOf n zs ∧ er = fitE v n zs)
theorem ValE.uniq {v : Wv} {n : Nd} {f t x y : Int} (h : ValE v n f t x) (h' : ValE v n f t y) : x = y := by
  rcases h with ⟨h1, rfl⟩ | ⟨h1, h2, rfl⟩ | ⟨h1, ⟨p, h2⟩, zs, h3, rfl⟩
  · rcases h' with ⟨g1, rfl⟩ | ⟨g1, g2, rfl⟩ | ⟨g1, ⟨q, g2⟩, ys, g3, rfl⟩
    · rfl
    · exact absurd g1 h1
    · exact absurd g1 h1
  · rcases h' with ⟨g1, rfl⟩ | ⟨g1, g2, rfl⟩ | ⟨g1, ⟨q, g2⟩, ys, g3, rfl⟩
    · exact absurd h1 g1
    · rfl
    · rw [h2] at g2; cases g2
  · rcases h' with ⟨g1, rfl⟩ | ⟨g1, g2, rfl⟩ | ⟨g1, ⟨q, g2⟩, ys, g3, rfl⟩
    · exact absurd h1 g1
    · rw [h2] at g2; cases g2
    · rw [sigs_same h3 g3]
/-- a list of spans and an error: the value -/
def ValR (v : Wv) (n : Nd) (f t : Int) (m : Nat) (p q : Value) (w : World) : Prop :=
  ∃ (er : Int) (A : Option Addr) (c : Nat) (l : List Spn), ValE v n f t er ∧ q = .int .i64 er ∧ p = .slice A l.length c ∧ Row w (Lo w.heap.size) 3 encSp A l ∧ (er ≠ 0 → l = []) ∧ (er = 0 → Spans (fun u => valF (envW v u) n) f t l) ∧ (m = 0 → l.length ≤ 4001)
theorem ValR.err {v : Wv} {n : Nd} {f t er : Int} {m : Nat} {w : World} (h : ValE v n f t er) (he : er ≠ 0) : ValR v n f t m (.slice none 0 0) (.int .i64 er) w :=
  ⟨er, none, 0, [], h, rfl, rfl, fun h => absurd rfl h, fun _ => rfl, fun h => absurd h he, fun _ => Nat.zero_le _⟩
theorem value_new (v : Wv) (n : Nd) (f t : Int) (M : Nat) (w w1 : World) (hb : Below w.heap.size w w1) (hM : w.heap.size ≤ M) (h : SourceAt w1 M v (-1) 0) (hv : SmallOk v) (hf : FewOk 60 n) (ht : TreesAt w (Lo w.heap.size) n.KA n.kids) (hok : okF n) :
    Calls Tryz.prog 13 #[srcV M, .agg (cNd n).toArray, .int .i64 f, .int .i64 t] w1 fun e w2 => (∃ p q, e = .returned (.tuple #[p, q]) ∧ ValR v n f t 0 p q w2) ∧ Below w.heap.size w w2 := by
  have fin : ∀ {c : Int} {w2 : World}, SrcTo w1 M v (-1) c w2 → Below w.heap.size w w2 := fun hs => hb.trans (hs.2.below hb.size fun k e => by injection e with e; omega)
  refine (value_any2 v (-1) 0 M n f t w1 h hv (tree_un ht hb hM) hok hf (few_short n hf) (by decide) (by decide) (.inl (by decide)) (fun h => by omega)).mono ?_
  rintro e w2 (⟨h1, rfl, h2⟩ | ⟨h0, h1, rfl, h2⟩ | ⟨h0, h1, zs, hz, ⟨h2, _, rfl, c', h3⟩ | ⟨h2, _, h3, A, ca, l, rfl, ho, hs, hl⟩ | ⟨_, h2, _⟩⟩)
  · exact ⟨⟨_, _, rfl, .err (.inl ⟨h1, rfl⟩) (by decide)⟩, fin h2⟩
  · exact ⟨⟨_, _, rfl, .err (.inr (.inl ⟨h0, h1, rfl⟩)) (by decide)⟩, fin h2⟩
  · exact ⟨⟨_, _, rfl, .err (.inr (.inr ⟨h0, h1, zs, hz, rfl⟩)) h2⟩, fin h3⟩
  · exact ⟨⟨_, _, rfl, ⟨0, A, ca, l, .inr (.inr ⟨h0, h1, zs, hz, h2.symm⟩), rfl, rfl, ho.rowI.more fun _ h => h.2, fun h => absurd rfl h, fun _ => hs, fun _ => hl⟩⟩, fin h3⟩
  · omega
theorem value_ref (v : Wv) (n : Nd) (f t : Int) (w : World) (hv : SmallOk v) (hS : SigsAt w (Lo w.heap.size) v.A v.sigs) (ht : TreesAt w (Lo w.heap.size) n.KA n.kids) (hok : okF n) (hf : FewOk 60 n) (hty : RtC n) :
    Calls Tryz.prog 15 #[.agg (cWv v).toArray, .agg (cNd n).toArray, .int .i64 f, .int .i64 t] w fun e w2 => (∃ p q, e = .returned (.tuple #[p, q]) ∧ ValR v n f t 1 p q w2) ∧ Below w.heap.size w w2 := by
  refine (rvalue51_any v n f t w hv hS ht hok (by have := sig_nodes n; have := hf.nodes; omega) hf (few_short n hf) hty).mono ?_
  rintro e w2 ⟨hb, ⟨h1, rfl⟩ | ⟨h0, h1, rfl⟩ | ⟨h0, h1, zs, hz, ⟨h2, rfl⟩ | ⟨h2, A, ca, l, rfl, ho, hs⟩⟩⟩
  · exact ⟨⟨_, _, rfl, .err (.inl ⟨h1, rfl⟩) (by decide)⟩, hb⟩
  · exact ⟨⟨_, _, rfl, .err (.inr (.inl ⟨h0, h1, rfl⟩)) (by decide)⟩, hb⟩
  · exact ⟨⟨_, _, rfl, .err (.inr (.inr ⟨h0, h1, zs, hz, rfl⟩)) h2⟩, hb⟩
  · exact ⟨⟨_, _, rfl, ⟨0, A, ca, l, .inr (.inr ⟨h0, h1, zs, hz, h2.symm⟩), rfl, rfl, ho, fun h => absurd rfl h, fun _ => hs, fun h => by cases h⟩⟩, hb⟩
def ValCut (v : Wv) (n : Nd) (f t : Int) (w w' : World) (p q : Value) : Prop := ValR v n f t 0 p q w' ∧ Below w.heap.size w w'

set_option maxRecDepth 100000 in
set_option maxHeartbeats 8000000 in
theorem values_all (v : Wv) (gs : List (Int × Int)) (n : Nd) (f t : Int) (w : World) (hS : SigsAt w (Lo w.heap.size) v.A v.sigs) (hG : Row w (Lo w.heap.size) 2 cGp v.G gs) (hgn : v.gn = gs.length) (hsz : ∀ s ∈ v.sigs, ∀ c ∈ s.chs, c.val.size ≤ 9223372036854775807)
    (ht : TreesAt w (Lo w.heap.size) n.KA n.kids) (hok : okF n) (hty : RtC n) :
    Calls Tryz.prog 4 #[.agg (cWv v).toArray, .agg (cNd n).toArray, .int .i64 f, .int .i64 t] w fun e w' => e = .returned (.bool true) ∧ Below w.heap.size w w' := by
  have HFW := hide (fun (W : World) (hb : Below w.heap.size w W) => few51_any v gs n W (hS.grow hb) (hG.grow hb) hgn hsz (ht.grow hb))
  have HNEW := hide (fun (W : World) (hb : Below w.heap.size w W) => new_any v W (hS.grow hb))
  have HVN := hide (fun (W W1 : World) (hb : Below w.heap.size w W) (hb1 : Below W.heap.size W W1) (M : Nat) (hM : W.heap.size ≤ M) (h : SourceAt W1 M v (-1) 0) (hv : SmallOk v ∧ FewOk 60 n) => value_new v n f t M W W1 hb1 hM h hv.1 hv.2 (ht.grow hb) hok)
  have HVR := hide (fun (W : World) (hb : Below w.heap.size w W) (hv : SmallOk v ∧ FewOk 60 n) => value_ref v n f t W hv.1 (hS.grow hb) (ht.grow hb) hok hv.2 hty)
  unfold srcV at HVN
  clear hS hG hgn hsz ht hok hty
  obtain ⟨A, cA, sigs, G, gn, cG, fin⟩ := v
  obtain ⟨kind, at_, name, value, a, b, c, d, KA, kc, kids⟩ := n
  unfold cWv cNd at *
  dsimp only at *
  generalize hvv : Wv.mk A cA sigs G gn cG fin = v at *
  generalize hnn : Nd.mk kind at_ name value a b c d KA kc kids = n at *
  clear hvv hnn
  obtain ⟨W0, hW0⟩ : ∃ W0, (w.alloc (.cells #[.slice A sigs.length cA, .slice G gn cG, .int .i64 fin] 29)).alloc (.cells #[.int .i64 kind, .int .i64 at_, .string name, .string value, .int .i64 a, .int .i64 b, .int .i64 c, .int .i64 d, .slice KA kids.length kc] 32) = W0 := ⟨_, rfl⟩
  obtain ⟨p0, p1, hb0⟩ := chain2 _ _ _ hW0
  have HB0 := hide hb0
  have HG0 := hide p0
  have HG1 := hide p1
  have HH := hide (wn_held p0 p1)
  obtain ⟨c0, c1, c2, y0, y1, y2, y3, y4, y5, y6, y7, y8, -⟩ := HH.out W0 (Below.refl _ _)
  have HW0 := hide hW0
  clear hW0 p0 p1 hb0
  go_enter Tryz.func4, Tryz.ntmps4
  go_upto_region 1 with (fail)
  rw [HW0.out]
  go_wp2_with fail
  refine (HFW.out W0 HB0.out).mono ?_
  rintro e w1 ⟨b1, rfl, hs1, hb1⟩
  have HS1 := hide hs1
  have HB1 := hide hb1
  have HBB1 := hide (bstep HB0.out hb1)
  clear hs1 hb1 c0 c1 c2 y0 y1 y2 y3 y4 y5 y6 y7 y8
  cases b1 with
  | false =>
    go_wp2_with fail
    refine (awake51 _).mono ?_
    rintro e w2 ⟨rfl, hb2⟩
    have HB2 := hide (bstep HBB1.out hb2)
    clear hb2
    go_wp2_with fail
    go_ret
    exact ⟨rfl, HB2.out⟩
  | true =>
    have HSM := hide (HS1.out rfl)
    clear HS1
    have HH1 := hide (wn_held ((HB1.out.block _ (box_lt HG0.out)).trans HG0.out) ((HB1.out.block _ (box_lt HG1.out)).trans HG1.out))
    go_upto_region 3 with (fail)
    go_cut [9, 10] (fun p q wx => ValCut v n f t w1 wx p q)
    case first =>
      have r0 : Below w1.heap.size w1 w1.drew := below_drew (Below.refl _ _)
      have k0 := HH1.out w1.drew r0
      go_region_held3 (fun wx => wx.cell? ⟨w.heap.size, 0, none⟩ = some (.slice A sigs.length cA) ∧ wx.cell? ⟨w.heap.size, 1, none⟩ = some (.slice G gn cG) ∧ wx.cell? ⟨w.heap.size, 2, none⟩ = some (.int .i64 fin) ∧ wx.cell? ⟨w.heap.size + 1, 0, none⟩ = some (.int .i64 kind) ∧ wx.cell? ⟨w.heap.size + 1, 1, none⟩ = some (.int .i64 at_) ∧ wx.cell? ⟨w.heap.size + 1, 2, none⟩ = some (.string name) ∧ wx.cell? ⟨w.heap.size + 1, 3, none⟩ = some (.string value) ∧ wx.cell? ⟨w.heap.size + 1, 4, none⟩ = some (.int .i64 a) ∧ wx.cell? ⟨w.heap.size + 1, 5, none⟩ = some (.int .i64 b) ∧ wx.cell? ⟨w.heap.size + 1, 6, none⟩ = some (.int .i64 c) ∧ wx.cell? ⟨w.heap.size + 1, 7, none⟩ = some (.int .i64 d) ∧ wx.cell? ⟨w.heap.size + 1, 8, none⟩ = some (.slice KA kids.length kc) ∧ Below w1.heap.size w1 wx)
        (first | (with_reducible assumption) | exact k0)
        (first
          | (go_at_call 14; refine (HNEW.out w1.drew (bstep HBB1.out r0)).mono ?_; rintro e wa ⟨M, rfl, hM, hsrc, hb2⟩; have hU := bstep HBB1.out r0; have r2 := bstep r0 hb2; have k2 := HH1.out wa r2)
          | (go_at_call 13; refine (HVN.out _ wa hU hb2 M hM hsrc HSM.out).mono ?_; rintro e wb ⟨⟨vp, vq, rfl, hvr⟩, hb3⟩; have r3 : Below w1.heap.size w1 wb := bstep r0 hb3; have k3 := HH1.out wb r3))
      all_goals (go_wp2_with fail; go_meet; exact ⟨hvr, r3⟩)
    case rest =>
      obtain ⟨hvr, hb2⟩ := hcut
      obtain ⟨w2, rfl⟩ : ∃ x : World, x = wc := ⟨_, rfl⟩
      have HB2 := hide (bstep HB1.out hb2)
      have HBB2 := hide (bstep HBB1.out hb2)
      obtain ⟨er, A1, ca1, l, he, rfl, rfl, hr, hl0, hl1, hl2⟩ := hvr
      have HV1 := hide (And.intro he (And.intro hr (And.intro hl0 (And.intro hl1 (hl2 rfl)))))
      clear he hr hl0 hl1 hl2 hb2
      obtain ⟨c0, c1, c2, y0, y1, y2, y3, y4, y5, y6, y7, y8, -⟩ := HH.out w2 HB2.out
      go_wp2_with fail
      refine (HVR.out w2 HBB2.out HSM.out).mono ?_
      rintro e w3 ⟨⟨p3, q3, rfl, er3, A3, c3, l3, he3, rfl, rfl, hr3, k0, k1, -⟩, hb3⟩
      obtain rfl := HV1.out.1.uniq he3
      obtain rfl : l = l3 := by
        by_cases h : er = 0
        · exact (HV1.out.2.2.2.1 h).uniq (k1 h)
        · rw [HV1.out.2.2.1 h, k0 h]
      have HBB3 := hide (bstep HBB2.out hb3)
      have HSA := hide (rsame47_any A1 A3 ca1 c3 l w3 (HV1.out.2.1.grow hb3) hr3 (Nat.le_trans HV1.out.2.2.2.2 (by decide)))
      clear hr3 hb3 k0 k1 he3 c0 c1 c2 y0 y1 y2 y3 y4 y5 y6 y7 y8
      go_wp2_with fail
      refine HSA.out.mono ?_
      rintro e w4 ⟨rfl, hb4⟩
      have HBB4 := hide (bstep HBB3.out hb4)
      clear hb4
      go_wp2_with fail
      refine (awake51 _).mono ?_
      rintro e w5 ⟨rfl, hb5⟩
      have HB5 := hide (bstep HBB4.out hb5)
      clear hb5
      go_wp2_with fail
      go_ret
      exact ⟨rfl, HB5.out⟩

end Go.Proofs.YtdlebcijgdkfjaaGreatDoor
