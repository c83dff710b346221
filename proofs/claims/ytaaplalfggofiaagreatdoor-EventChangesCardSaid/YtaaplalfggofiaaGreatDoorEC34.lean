/-
  Several texts in one: LawChanges. Each says at its head what it holds.
-/
import Derived.Test.YtaaplalfggofiaaGreatDoorEC32
import Derived.Test.YtaaplalfggofiaaGreatDoorEC31
import Derived.Test.YtaaplalfggofiaaGreatDoorEC29
import Derived.Test.YtaaplalfggofiaaGreatDoorEC11
import Derived.Deep.RegionLaw
import Derived.Deep.RegionHeld3
import Derived.Test.YtaaplalfggofiaaGreatDoorEC33

/-
  wavestorelaw53.EventChanges, walked; the example is a premise here (EAwake proves it).
-/
namespace Go.Proofs.YtaaplalfggofiaaGreatDoor
open Go.RowKit

/-- a list of spans and an error: the value -/
def ValG (v : Wv) (n : Nd) (f t : Int) (p q : Value) (w : World) : Prop :=
  ∃ (er : Int) (A : Option Addr) (c : Nat) (l : List Spn), q = .int .i64 er ∧ p = .slice A l.length c ∧ (er = 0 → inR v f t ∧ (∀ x ∈ sigF n, sigE v n x = 0) ∧ Row w (Lo w.heap.size) 3 encSp A l ∧ Spans (fun u => valF (envW v u) n) f t l ∧ l.length ≤ 4001)
theorem value_g (v : Wv) (n : Nd) (f t : Int) (M : Nat) (w w1 : World) (hb : Below w.heap.size w w1) (hM : w.heap.size ≤ M) (h : SourceAt w1 M v (-1) 0) (hv : SmallOk v) (hf : FewOk 60 n) (ht : TreesAt w (Lo w.heap.size) n.KA n.kids) (hok : okF n) :
    Calls Tryz.prog 36 #[srcV M, .agg (cNd n).toArray, .int .i64 f, .int .i64 t] w1 fun e w2 => (∃ p q, e = .returned (.tuple #[p, q]) ∧ ValG v n f t p q w2) ∧ Below w.heap.size w w2 := by
  have fin : ∀ {c : Int} {w2 : World}, SrcTo w1 M v (-1) c w2 → Below w.heap.size w w2 := fun hs => hb.trans (hs.2.below hb.size fun k e => by injection e with e; omega)
  refine (value_any2 v (-1) 0 M n f t w1 h hv (tree_un ht hb hM) hok hf (few_short n hf) (by decide) (by decide) (.inl (by decide)) (fun h => by omega)).mono ?_
  rintro e w2 (⟨h1, rfl, h2⟩ | ⟨h0, h1, rfl, h2⟩ | ⟨h0, h1, zs, hz, ⟨h2, _, rfl, c', h3⟩ | ⟨h2, _, h3, A, ca, l, rfl, ho, hs, hl⟩ | ⟨_, h2, _⟩⟩)
  · exact ⟨⟨_, _, rfl, 2, none, 0, [], rfl, rfl, fun h => by cases h⟩, fin h2⟩
  · exact ⟨⟨_, _, rfl, 7, none, 0, [], rfl, rfl, fun h => by cases h⟩, fin h2⟩
  · exact ⟨⟨_, _, rfl, _, none, 0, [], rfl, rfl, fun h => absurd h h2⟩, fin h3⟩
  · exact ⟨⟨_, _, rfl, 0, A, ca, l, rfl, rfl, fun _ => ⟨h0, (fit_good hz hok).1 h2, ho.row.more fun _ h => h.2.1, hs, hl⟩⟩, fin h3⟩
  · omega
theorem times_new (v : Wv) (n : Nd) (kind f t : Int) (M K : Nat) (tt : TypeId) (w w1 : World) (hb : Below w.heap.size w w1) (hM : w.heap.size ≤ M) (h : SourceAt w1 M v (-1) 0) (hK : w1.heap[K]? = some (.cells (cNd n).toArray tt (0, 0))) (hKM : K ≠ M) (hv : SmallOk v) (hf : FewOk 40 n) (ht : TreesAt w (Lo w.heap.size) n.KA n.kids) (hok : okF n) (hty : typeF n = some (0, 1)) (hfit : ∀ x ∈ sigF n, sigE v n x = 0) (hk : 37 ≤ kind ∧ kind ≤ 41) (hr : inR v f t) :
    Calls Tryz.prog 32 #[srcV M, .agg #[.int .i64 kind, .int .i64 0, .string ⟨#[]⟩, .string ⟨#[]⟩, .int .i64 0, .int .i64 0, .int .i64 0, .int .i64 0, .slice (some ⟨K, 0, none⟩) 1 1], .int .i64 f, .int .i64 t] w1 fun e w2 =>
      (∃ (l : List Spn) (A : Option Addr) (c : Nat), Spans (fun u => valF (envW v u) n) (max (f - 1) 0) t l ∧ l.length ≤ 4001 ∧ e = .returned (.tuple #[.slice A (evs kind f l).length c, .int .i64 0]) ∧ OwnInt w2 w1.heap.size A c (evs kind f l)) ∧ Below w.heap.size w w2 := by
  refine (times_ev v n kind f t M K tt w1 h hK hKM hv hf (tree_un ht hb hM) hok hty hfit hk hr).mono ?_
  rintro e w2 ⟨l, A, c, h1, h2, h3, h4, c', h5⟩
  exact ⟨⟨l, A, c, h1, h2, h3, h4⟩, hb.trans (h5.2.below hb.size fun k e => by injection e with e; omega)⟩
/-- a list of times behind a call of Times -/
def EvAt (v : Wv) (n : Nd) (k f t : Int) (base : Nat) (w : World) (x : Value) : Prop :=
  ∃ (l : List Spn) (A : Option Addr) (c : Nat), Spans (fun u => valF (envW v u) n) (max (f - 1) 0) t l ∧ l.length ≤ 4001 ∧ x = .slice A (evs k f l).length c ∧ OwnInt w base A c (evs k f l)
theorem EvAt.keep {v : Wv} {n : Nd} {k f t : Int} {base : Nat} {w w' : World} {x : Value} (h : EvAt v n k f t base w x) (hk : ∀ b, base ≤ b → b < w.heap.size → w'.heap[b]? = w.heap[b]?) : EvAt v n k f t base w' x := by
  obtain ⟨l, A, c, h1, h2, h3, h4⟩ := h
  exact ⟨l, A, c, h1, h2, h3, own_block h4 fun g hg => hk g (own_ob h4 g hg).1 (own_ob h4 g hg).2⟩
def ChRel (v : Wv) (n : Nd) (f t : Int) (B : Nat) (w : World) (i : Value) (wr : World) : Prop :=
  ∃ (j : Nat) (m : Int → Value), j ≤ 5 ∧ i = .int .i64 (37 + (j : Int)) ∧ MapV wr B j (.slice none 0 0) m ∧ (∀ k : Int, 37 ≤ k → k < 37 + (j : Int) → EvAt v n k f t (B + 1) wr (m k)) ∧ Below w.heap.size w wr
def StRel (g : Int → ByteArray) (f : Int) (l : List Spn) (w : World) (o i : Value) (wr : World) : Prop :=
  ∃ (k : Nat) (A : Option Addr) (c : Nat), k ≤ l.length ∧ i = .int .i64 (k : Int) ∧ o = .slice A (startL g f (l.take k)).length c ∧ OwnInt wr w.heap.size A c (startL g f (l.take k)) ∧ Below w.heap.size w wr
def HsRel (n : Nat) (w : World) (i : Value) (wr : World) : Prop := ∃ k : Nat, k ≤ n ∧ i = .int .i64 (k : Int) ∧ Below w.heap.size w wr
theorem start_one (g : Int → ByteArray) (f : Int) (x : Spn) (r : List Spn) : startL g f ((x :: r).take (0 + 1)) = if 1 ≤ f ∧ g (f - 1) ≠ x.v then [f] else [] := by
  show (if 1 ≤ f ∧ g (f - 1) ≠ x.v then [f] else []) ++ [] = _
  rw [List.append_nil]
theorem start_zero (g : Int → ByteArray) (f : Int) (l : List Spn) (h : 0 < l.length) : startL g f (l.take (0 + 1)) = if 1 ≤ f ∧ g (f - 1) ≠ l[0].v then [f] else [] := by
  cases l with
  | nil => simp at h
  | cons x r => exact start_one g f x r
theorem ints_but {w w' : World} {M K : Nat} {f : Int} {t : TypeId} (h : w.heap[K]? = some (.cells #[.int .i64 f] t (0, 0))) (hne : K ≠ M) (hb : But w.heap.size (some M) w w') : IntsAt w' w'.heap.size (some ⟨K, 0, none⟩) [f] :=
  ints_blk ((hb.block K (box_lt h) fun e => hne (by injection e)).trans h) rfl
theorem start_snoc (g : Int → ByteArray) (f : Int) (l : List Spn) {k : Nat} (hk : 0 < k) (h : k < l.length) : startL g f (l.take (k + 1)) = startL g f (l.take k) ++ [l[k].f] := by
  cases l with
  | nil => simp at h
  | cons x r =>
    obtain ⟨q, rfl⟩ : ∃ q, k = q + 1 := ⟨k - 1, by omega⟩
    have hq : q < r.length := by simpa using h
    rw [List.take_succ_cons, List.take_succ_cons]
    show _ ++ (r.take (q + 1)).map Spn.f = (_ ++ (r.take q).map Spn.f) ++ [((x :: r)[q + 1]).f]
    rw [List.take_succ_eq_append_getElem hq, List.map_append, List.append_assoc]
    rfl
theorem start_len (g : Int → ByteArray) (f : Int) : ∀ l : List Spn, (startL g f l).length ≤ l.length
  | [] => Nat.le_refl _
  | x :: r => by
    show ((if 1 ≤ f ∧ g (f - 1) ≠ x.v then [f] else []) ++ r.map Spn.f).length ≤ r.length + 1
    rw [List.length_append, List.length_map]
    split <;> simp <;> omega
def ValCutG (v : Wv) (n : Nd) (f t : Int) (w w' : World) (p q : Value) : Prop := ValG v n f t p q w' ∧ Below w.heap.size w w'

set_option maxRecDepth 100000 in
set_option maxHeartbeats 80000000 in
theorem changes_all (haw : Awake53) (v : Wv) (gs : List (Int × Int)) (n : Nd) (f t : Int) (w : World) (hS : SigsAt w (Lo w.heap.size) v.A v.sigs) (hG : Row w (Lo w.heap.size) 2 cGp v.G gs) (hgn : v.gn = gs.length) (hsz : ∀ s ∈ v.sigs, ∀ c ∈ s.chs, c.val.size ≤ 9223372036854775807)
    (ht : TreesAt w (Lo w.heap.size) n.KA n.kids) (hok : okF n) :
    Calls Tryz.prog 8 #[.agg (cWv v).toArray, .agg (cNd n).toArray, .int .i64 f, .int .i64 t] w fun e w' => e = .returned (.bool true) ∧ Below w.heap.size w w' := by
  obtain ⟨i0, hi0, iz0, iz1, iz2⟩ := info_parts infoIn
  have HAW := hide haw
  have HFW := hide (fun (W : World) (hb : Below w.heap.size w W) => few53_any v gs n W (hS.grow hb) (hG.grow hb) hgn hsz (ht.grow hb))
  have HND := hide (fun (W : World) (hb : Below w.heap.size w W) => nodes_any n W (ht.grow hb))
  have HTY := hide (fun (W : World) (hb : Below w.heap.size w W) => type_any n W (ht.grow hb))
  have HNEW := hide (fun (W : World) (hb : Below w.heap.size w W) => new_any v W (hS.grow hb))
  have HVL := hide (fun (W W1 : World) (hb : Below w.heap.size w W) (hb1 : Below W.heap.size W W1) (M : Nat) (hM : W.heap.size ≤ M) (h : SourceAt W1 M v (-1) 0) (hv : FwOk v n) => value_g v n f t M W W1 hb1 hM h hv.1 (few_mono (by decide) n hv.2.2) (ht.grow hb) hok)
  have HTM := hide (fun (kind : Int) (hk : 37 ≤ kind ∧ kind ≤ 41) (hr : inR v f t ∧ typeF n = some (0, 1) ∧ ∀ x ∈ sigF n, sigE v n x = 0) (W W1 : World) (hb : Below w.heap.size w W) (hb1 : Below W.heap.size W W1) (M K : Nat) (tt : TypeId) (hM : W.heap.size ≤ M) (h : SourceAt W1 M v (-1) 0) (hK : W1.heap[K]? = some (.cells (cNd n).toArray tt (0, 0))) (hKM : K ≠ M) (hv : FwOk v n) => times_new v n kind f t M K tt W W1 hb1 hM h hK hKM hv.1 hv.2.2 (ht.grow hb) hok hr.2.1 hr.2.2 hk hr.1)
  obtain ⟨zs, hz⟩ := sigs_ex hok
  have HSM0 := hide (fun (W W1 : World) (TA : Option Addr) (hb : Below w.heap.size w W) (hb1 : Below W.heap.size W W1) (M : Nat) (hM : W.heap.size ≤ M) (h : SourceAt W1 M v (-1) 0) (hv : FwOk v n) (hI : ∀ W2, But W1.heap.size (some M) W1 W2 → IntsAt W2 W2.heap.size TA [f]) => show Calls Tryz.prog 37 #[srcV M, .agg (cNd n).toArray, .slice TA 1 1] W1 (SmpPost v n zs [f] M W1) from sample_any v 0 M n zs TA 1 [f] W1 h hv.1 (tree_un (ht.grow hb) hb1 hM) hok (few_mono (by decide) n hv.2.2) hz (by decide) (by decide) hI (Nat.le_of_ble_eq_true rfl))
  have HZF := hide (fun (h : ∀ x ∈ sigF n, sigE v n x = 0) => (fit_good hz hok).2 h)
  have HTF := hide (fun (k q : Int) (h : typeF n = some (k, q)) => typeF_bound n k q h)
  have HFN := hide (fun (h : FewOk 40 n) => show wrap64 (nodesF n) = nodesF n by have h1 := nodes_pos n; have h2 := h.nodes; unfold wrap64; omega)
  unfold srcV at HVL HTM HSM0
  clear haw hS hG hgn hsz ht hok hz
  obtain ⟨A, cA, sigs, G, gn, cG, fin⟩ := v
  obtain ⟨kind, at_, name, value, a, b, c, d, KA, kc, kids⟩ := n
  unfold cWv cNd at *
  dsimp only at *
  generalize hvv : Wv.mk A cA sigs G gn cG fin = v at *
  generalize hnn : Nd.mk kind at_ name value a b c d KA kc kids = n at *
  clear hvv hnn
  obtain ⟨W0, hW0⟩ : ∃ W0, (w.alloc (.cells #[.slice A sigs.length cA, .slice G gn cG, .int .i64 fin] 25)).alloc (.cells #[.int .i64 kind, .int .i64 at_, .string name, .string value, .int .i64 a, .int .i64 b, .int .i64 c, .int .i64 d, .slice KA kids.length kc] 28) = W0 := ⟨_, rfl⟩
  obtain ⟨p0, p1, hb0⟩ := chain2 _ _ _ hW0
  have HB0 := hide hb0
  have HG0 := hide p0
  have HG1 := hide p1
  have HH := hide (wn_held p0 p1)
  obtain ⟨c0, c1, c2, y0, y1, y2, y3, y4, y5, y6, y7, y8, -⟩ := HH.out W0 (Below.refl _ _)
  have HW0 := hide hW0
  clear hW0 p0 p1 hb0
  obtain ⟨rz, hrz⟩ : ∃ rz, typeF n = rz := ⟨_, rfl⟩
  have HRZ := hide hrz
  rw [hrz] at HTY
  clear hrz
  go_enter Tryz.func8, Tryz.ntmps8
  go_upto_region 1 with (fail)
  rw [HW0.out]
  go_wp2_with fail
  refine (HFW.out W0 HB0.out).mono ?_
  rintro e w1 ⟨b1, rfl, hs1, hb1⟩
  have HS1 := hide hs1
  have HB1 := hide hb1
  clear hs1 hb1 c0 c1 c2 y0 y1 y2 y3 y4 y5 y6 y7 y8
  cases b1 with
  | false =>
    have HBB1 := hide (bstep HB0.out HB1.out)
    go_wp2_with fail
    refine (HAW.out _).mono ?_
    rintro e w2 ⟨rfl, hbz⟩
    have HBZ := hide (bstep HBB1.out hbz)
    clear hbz
    go_wp2_with fail
    go_ret
    exact ⟨rfl, HBZ.out⟩
  | true =>
    have HSM := hide (HS1.out rfl)
    obtain ⟨c0, c1, c2, y0, y1, y2, y3, y4, y5, y6, y7, y8, -⟩ := HH.out w1 HB1.out
    go_wp2_with fail
    refine (HND.out w1 (bstep HB0.out HB1.out)).mono ?_
    rintro e w2 ⟨rfl, hb2⟩
    have HB2 := hide (bstep HB1.out hb2)
    rw [HFN.out HSM.out.2.2]
    clear HS1 hb2 c0 c1 c2 y0 y1 y2 y3 y4 y5 y6 y7 y8
    by_cases hnd : 20 < nodesF n
    case pos =>
      have T1 : decide (20 < nodesF n) = true := decide_eq_true hnd
      have HBB := hide (bstep HB0.out HB2.out)
      clear hnd
      go_wp2_with fail
      refine (HAW.out _).mono ?_
      rintro e w3 ⟨rfl, hbz⟩
      have HBZ := hide (bstep HBB.out hbz)
      clear hbz
      go_wp2_with fail
      go_ret
      exact ⟨rfl, HBZ.out⟩
    have T1 : decide (20 < nodesF n) = false := decide_eq_false hnd
    clear hnd
    obtain ⟨c0, c1, c2, y0, y1, y2, y3, y4, y5, y6, y7, y8, -⟩ := HH.out w2 HB2.out
    go_wp2_with fail
    refine (HTY.out w2 (bstep HB0.out HB2.out)).mono ?_
    rintro e w3 ⟨rfl, hb3⟩
    have HB3 := hide (bstep HB2.out hb3)
    have HBB3 := hide (bstep HB0.out HB3.out)
    clear hb3 c0 c1 c2 y0 y1 y2 y3 y4 y5 y6 y7 y8
    cases rz with
    | none =>
      unfold typV
      dsimp only
      go_wp2_with fail
      refine (HAW.out _).mono ?_
      rintro e w4 ⟨rfl, hbz⟩
      have HBZ := hide (bstep HBB3.out hbz)
      clear hbz
      go_wp2_with fail
      go_ret
      exact ⟨rfl, HBZ.out⟩
    | some p =>
      obtain ⟨pk, pq⟩ := p
      unfold typV
      dsimp only
      by_cases hq1 : pq = 1
      case neg =>
        have T2 : (pq != 1) = true := bne_iff_ne.2 hq1
        clear hq1
        go_wp2_with fail
        refine (HAW.out _).mono ?_
        rintro e w4 ⟨rfl, hbz⟩
        have HBZ := hide (bstep HBB3.out hbz)
        clear hbz
        go_wp2_with fail
        go_ret
        exact ⟨rfl, HBZ.out⟩
      subst hq1
      have HT01 := hide (show typeF n = some (0, 1) by
        have := HTF.out _ _ HRZ.out
        have hpk : pk = 0 := by omega
        rw [HRZ.out, hpk])
      clear T1
      go_upto_region 6 with (fail)
      go_cut [12, 13] (fun p q wx => ValCutG v n f t w3 wx p q)
      case first =>
        have r0 : Below w3.heap.size w3 w3.drew := below_drew (Below.refl _ _)
        have HH3 := hide (wn_held ((HB3.out.block _ (box_lt HG0.out)).trans HG0.out) ((HB3.out.block _ (box_lt HG1.out)).trans HG1.out))
        have k0 := HH3.out w3.drew r0
        go_region_held3 (fun wx => wx.cell? ⟨w.heap.size, 0, none⟩ = some (.slice A sigs.length cA) ∧ wx.cell? ⟨w.heap.size, 1, none⟩ = some (.slice G gn cG) ∧ wx.cell? ⟨w.heap.size, 2, none⟩ = some (.int .i64 fin) ∧ wx.cell? ⟨w.heap.size + 1, 0, none⟩ = some (.int .i64 kind) ∧ wx.cell? ⟨w.heap.size + 1, 1, none⟩ = some (.int .i64 at_) ∧ wx.cell? ⟨w.heap.size + 1, 2, none⟩ = some (.string name) ∧ wx.cell? ⟨w.heap.size + 1, 3, none⟩ = some (.string value) ∧ wx.cell? ⟨w.heap.size + 1, 4, none⟩ = some (.int .i64 a) ∧ wx.cell? ⟨w.heap.size + 1, 5, none⟩ = some (.int .i64 b) ∧ wx.cell? ⟨w.heap.size + 1, 6, none⟩ = some (.int .i64 c) ∧ wx.cell? ⟨w.heap.size + 1, 7, none⟩ = some (.int .i64 d) ∧ wx.cell? ⟨w.heap.size + 1, 8, none⟩ = some (.slice KA kids.length kc) ∧ Below w3.heap.size w3 wx)
          (first | (with_reducible assumption) | exact k0)
          (first
            | (go_at_call 18; refine (HNEW.out w3.drew (bstep HBB3.out r0)).mono ?_; rintro e wa ⟨M, rfl, hM, hsrc, hb2⟩; have hU := bstep HBB3.out r0; have r2 := bstep r0 hb2; have k2 := HH3.out wa r2)
            | (go_at_call 36; refine (HVL.out _ wa hU hb2 M hM hsrc HSM.out).mono ?_; rintro e wb ⟨⟨vp, vq, rfl, hvr⟩, hb3⟩; have r3 : Below w3.heap.size w3 wb := bstep r0 hb3; have k3 := HH3.out wb r3))
        all_goals (go_wp2_with fail; go_meet; exact ⟨hvr, r3⟩)
      case rest =>
        obtain ⟨hvr, hb2⟩ := hcut
        obtain ⟨w4, rfl⟩ : ∃ x : World, x = wc := ⟨_, rfl⟩
        have HB4 := hide (bstep HB3.out hb2)
        have HBB4 := hide (bstep HBB3.out hb2)
        obtain ⟨er, LA, lc, l, rfl, rfl, hl⟩ := hvr
        have HL := hide hl
        clear hl hb2
        by_cases he : er = 0
        case neg =>
          have T3 : (er != 0) = true := bne_iff_ne.2 he
          clear he
          go_wp2_with fail
          refine (HAW.out _).mono ?_
          rintro e w5 ⟨rfl, hbz⟩
          have HBZ := hide (bstep HBB4.out hbz)
          clear hbz
          go_wp2_with fail
          go_ret
          exact ⟨rfl, HBZ.out⟩
        subst he
        obtain ⟨hir, hfit, hrow, hspn, hlen⟩ := HL.out rfl
        have HR := hide (And.intro hir (And.intro HT01.out hfit))
        have HROW := hide hrow
        have HSPN := hide hspn
        have HLE := hide hlen
        clear HL hir hfit hrow hspn hlen
        have hmm := @run_makeMap Tryz.prog
        go_upto_region 11 with (fail)
        clear hmm
        have hbM : Below w4.heap.size w4 (w4.alloc (.map #[] 0)) := (Below.refl _ _).alloc (Nat.le_refl _) _
        go_loopw [15] (fun i wr => ChRel v n f t w4.heap.size w4 i wr) (fun i _ => (42 - intOf i).toNat)
        case atStart => exact ⟨0, fun _ => .slice none 0 0, by omega, rfl, MapV.made w4 _, fun k h1 h2 => by omega, hbM⟩
        case round =>
          obtain ⟨V, rfl⟩ : ∃ w2 : World, w2 = wr := ⟨_, rfl⟩
          obtain ⟨j, m, hj, rfl, hmp, hev, hbr⟩ := hrel
          have HMP := hide hmp
          have HEV := hide hev
          have HBR := hide hbr
          have HBBV := hide (bstep HBB4.out hbr)
          have HBV0 := hide (bstep HB4.out hbr)
          clear hmp hev hbr hbM
          by_cases hlt : j < 5
          · have T4 : decide ((37 : Int) + (j : Int) ≤ 41) = true := decide_eq_true (by omega)
            have hw : IntKind.i64.wrap (37 + (j : Int) + 1) = 37 + (j : Int) + 1 := by rw [IntWalk.i64_in _ (by omega)]
            have HKK := hide (show (37 : Int) ≤ 37 + (j : Int) ∧ 37 + (j : Int) ≤ 41 by omega)
            have hix : I64 (37 + (j : Int)) := by unfold I64; omega
            have r0 : Below V.heap.size V V.drew := below_drew (Below.refl _ _)
            have HHV := hide (wn_held ((HBV0.out.block _ (box_lt HG0.out)).trans HG0.out) ((HBV0.out.block _ (box_lt HG1.out)).trans HG1.out))
            have k0 := HHV.out V.drew r0
            have rc : Below V.heap.size V (V.alloc (.cells #[.int .i64 kind, .int .i64 at_, .string name, .string value, .int .i64 a, .int .i64 b, .int .i64 c, .int .i64 d, .slice KA kids.length kc] 28)).drew := below_drew (below_al (Below.refl _ _) _)
            have hzc : (V.alloc (.cells #[.int .i64 kind, .int .i64 at_, .string name, .string value, .int .i64 a, .int .i64 b, .int .i64 c, .int .i64 d, .slice KA kids.length kc] 28)).drew.heap.size = V.heap.size + 1 := World.size_alloc _ _
            have gK : (V.alloc (.cells #[.int .i64 kind, .int .i64 at_, .string name, .string value, .int .i64 a, .int .i64 b, .int .i64 c, .int .i64 d, .slice KA kids.length kc] 28)).drew.heap[V.heap.size]? = some (.cells #[.int .i64 kind, .int .i64 at_, .string name, .string value, .int .i64 a, .int .i64 b, .int .i64 c, .int .i64 d, .slice KA kids.length kc] 28 (0, 0)) := heap_alloc_new V _
            have hend : ∀ (w8 : World) (l' : List Spn) (A' : Option Addr) (c' : Nat), Below V.heap.size V w8 → Spans (fun u => valF (envW v u) n) (max (f - 1) 0) t l' → l'.length ≤ 4001 → OwnInt w8 V.heap.size A' c' (evs (37 + (j : Int)) f l') →
                ∀ w9, MapV w9 w4.heap.size (j + 1) (.slice none 0 0) (fun i => if i = 37 + (j : Int) then .slice A' (evs (37 + (j : Int)) f l').length c' else m i) → w8.grownBy w9 (some w4.heap.size) → ChRel v n f t w4.heap.size w4 (.int .i64 (37 + (j : Int) + 1)) w9 := fun w8 l' A' c' h1 h2 h3 h4 w9 h5 h6 => by
              have hVs := HMP.out.lt
              refine ⟨j + 1, _, hlt, by rw [show (37 : Int) + ((j + 1 : Nat) : Int) = 37 + (j : Int) + 1 by omega], h5, fun k h7 h8 => ?_, (bstep HBR.out h1).grown h6 ?_ ?_⟩
              · have hkeep : ∀ b, w4.heap.size + 1 ≤ b → b < w8.heap.size → w9.heap[b]? = w8.heap[b]? := fun b hb hb2 => h6.block b hb2 (fun e => by injection e with e; omega)
                by_cases e : k = 37 + (j : Int)
                · rw [if_pos e, e]
                  exact EvAt.keep ⟨l', A', c', h2, h3, rfl, h4.lower (by omega)⟩ hkeep
                · rw [if_neg e]
                  exact EvAt.keep (EvAt.keep (HEV.out k h7 (by omega)) (fun b hb hb2 => h1.block b hb2)) hkeep
              · exact Nat.le_trans HBR.out.size h1.size
              · intro g hg
                injection hg with hg
                omega
            have HE := hide hend
            have hsize := HBR.out.size
            clear hend hj
            go_upto_region 13 with (fail)
            go_region_held3 (fun wx => wx.cell? ⟨w.heap.size, 0, none⟩ = some (.slice A sigs.length cA) ∧ wx.cell? ⟨w.heap.size, 1, none⟩ = some (.slice G gn cG) ∧ wx.cell? ⟨w.heap.size, 2, none⟩ = some (.int .i64 fin) ∧ wx.cell? ⟨w.heap.size + 1, 0, none⟩ = some (.int .i64 kind) ∧ wx.cell? ⟨w.heap.size + 1, 1, none⟩ = some (.int .i64 at_) ∧ wx.cell? ⟨w.heap.size + 1, 2, none⟩ = some (.string name) ∧ wx.cell? ⟨w.heap.size + 1, 3, none⟩ = some (.string value) ∧ wx.cell? ⟨w.heap.size + 1, 4, none⟩ = some (.int .i64 a) ∧ wx.cell? ⟨w.heap.size + 1, 5, none⟩ = some (.int .i64 b) ∧ wx.cell? ⟨w.heap.size + 1, 6, none⟩ = some (.int .i64 c) ∧ wx.cell? ⟨w.heap.size + 1, 7, none⟩ = some (.int .i64 d) ∧ wx.cell? ⟨w.heap.size + 1, 8, none⟩ = some (.slice KA kids.length kc) ∧ Below V.heap.size V wx)
              (first | (with_reducible assumption) | (with_reducible exact k0) | (with_reducible exact HHV.out _ rc) | (with_reducible exact HHV.out _ (below_al r2 _)))
              (first
                | (go_at_call 18; (first | (with_reducible refine (HNEW.out V.drew (bstep HBBV.out r0)).mono ?_; rintro e wa ⟨M, rfl, hM, hsrc, hb2⟩; have hU := bstep HBBV.out r0; have r2 := bstep r0 hb2; have hMV := Nat.le_trans r0.size hM) | (with_reducible refine (HNEW.out ((V.alloc (.cells #[.int .i64 kind, .int .i64 at_, .string name, .string value, .int .i64 a, .int .i64 b, .int .i64 c, .int .i64 d, .slice KA kids.length kc] 28)).drew) (bstep HBBV.out rc)).mono ?_; rintro e wa ⟨M, rfl, hM, hsrc, hb2⟩; have hU := bstep HBBV.out rc; have r2 := bstep rc hb2; have hMV := Nat.le_trans rc.size hM)); have k2 := HHV.out wa r2; have hML := hsrc.lt; have hz2 := hb2.size)
                | (go_at_call 32; (first | with_reducible refine (HTM.out _ HKK.out HR.out V (wa.alloc _) HBBV.out (below_al r2 _) M wa.heap.size _ hMV (hsrc.below ((Below.refl _ _).alloc (Nat.le_refl _) _)) (heap_alloc_new wa _) (Nat.ne_of_gt hML) HSM.out).mono ?_ | with_reducible refine (HTM.out _ HKK.out HR.out V wa HBBV.out r2 M V.heap.size _ hMV hsrc ((hb2.block _ (by rw [hzc]; exact Nat.lt_succ_self _)).trans gK) (fun e => by rw [hzc] at hM; omega) HSM.out).mono ?_); rintro e wb ⟨⟨l', A', c', q1, q2, rfl, q4⟩, r3⟩; have k3 := HHV.out wb r3; have HQ := hide (And.intro q1 (And.intro q2 (show OwnInt wb V.heap.size A' c' (evs (37 + (j : Int)) f l') from q4.lower (by have := r2.size; first | exact this | (rw [World.size_alloc]; omega))))); clear q1 q2 q4))
            all_goals
              obtain ⟨w9, hrun, hm9, hg9⟩ := (HMP.out.block (r3.block _ HMP.out.lt)).put hix (.slice A' (evs (37 + (j : Int)) f l').length c') (by unfold maxLen; omega)
              have HF := hide (HE.out wb l' A' c' r3 HQ.out.1 HQ.out.2.1 HQ.out.2.2 w9 hm9 hg9)
              clear hm9 hg9
              go_wp2_with fail
              exact ⟨HF.out, by simp [intOf]; omega⟩
          · have hje : j = 5 := by omega
            subst hje
            rw [show (37 : Int) + ((5 : Nat) : Int) = 42 from rfl]
            obtain ⟨l', -, -, hsp', hl', -, -⟩ := HEV.out 37 (by omega) (by omega)
            have hm : ∀ k : Int, 37 ≤ k → k ≤ 41 → ∃ (A : Option Addr) (c : Nat), m k = .slice A (evs k f l').length c ∧ OwnInt V (w4.heap.size + 1) A c (evs k f l') := fun k h1 h2 => by
              obtain ⟨l2, A, c, g1, g2, g3, g4⟩ := HEV.out k h1 (by omega)
              obtain rfl := g1.uniq hsp'
              exact ⟨A, c, g3, g4⟩
            obtain ⟨A37, c37, e37, o37⟩ := hm 37 (by omega) (by omega)
            obtain ⟨A38, c38, e38, o38⟩ := hm 38 (by omega) (by omega)
            obtain ⟨A39, c39, e39, o39⟩ := hm 39 (by omega) (by omega)
            obtain ⟨A40, c40, e40, o40⟩ := hm 40 (by omega) (by omega)
            obtain ⟨A41, c41, e41, o41⟩ := hm 41 (by omega) (by omega)
            have hlk : ∀ W : World, W.heap[w4.heap.size]? = V.heap[w4.heap.size]? →
                (Instr.lookup 68 (.map (some w4.heap.size)) (.int .i64 37) false).run Tryz.prog W = .ok (.slice A37 (evs 37 f l').length c37) W ∧
                (Instr.lookup 68 (.map (some w4.heap.size)) (.int .i64 38) false).run Tryz.prog W = .ok (.slice A38 (evs 38 f l').length c38) W ∧
                (Instr.lookup 68 (.map (some w4.heap.size)) (.int .i64 39) false).run Tryz.prog W = .ok (.slice A39 (evs 39 f l').length c39) W ∧
                (Instr.lookup 68 (.map (some w4.heap.size)) (.int .i64 40) false).run Tryz.prog W = .ok (.slice A40 (evs 40 f l').length c40) W ∧
                (Instr.lookup 68 (.map (some w4.heap.size)) (.int .i64 41) false).run Tryz.prog W = .ok (.slice A41 (evs 41 f l').length c41) W := fun W hb => by
              have hmb := HMP.out.block hb
              have q37 := hmb.look (i := 37) (by unfold I64; omega)
              have q38 := hmb.look (i := 38) (by unfold I64; omega)
              have q39 := hmb.look (i := 39) (by unfold I64; omega)
              have q40 := hmb.look (i := 40) (by unfold I64; omega)
              have q41 := hmb.look (i := 41) (by unfold I64; omega)
              rw [e37] at q37
              rw [e38] at q38
              rw [e39] at q39
              rw [e40] at q40
              rw [e41] at q41
              exact ⟨q37, q38, q39, q40, q41⟩
            have HLK := hide hlk
            have hml := HMP.out.lt
            have HIS := hide (And.intro o37.ats (And.intro o38.ats (And.intro o39.ats (And.intro o40.ats o41.ats))))
            have HSP := hide hsp'
            have HLP := hide hl'
            obtain ⟨g, hg⟩ : ∃ g : Int → ByteArray, g = fun u => valF (envW v u) n := ⟨_, rfl⟩
            have HGF := hide (show ∀ u, smpG v n u = g (u - 1) by rw [hg]; exact fun u => rfl)
            rw [← hg] at HSPN HSP
            have HST := hide (start_evs HR.out.1.1 HSPN.out HSP.out)
            have HRW := hide (HROW.out.grow HBR.out)
            clear hg hm hlk hsp' hl' e37 e38 e39 e40 e41 o37 o38 o39 o40 o41 HEV HMP HROW
            go_upto_region 19 with (fail)
            go_loopw [18, 88] (fun o i wr => StRel g f l V o i wr) (fun _ i _ => l.length - (intOf i).toNat)
            case atStart => exact ⟨0, none, 0, Nat.zero_le _, rfl, rfl, OwnInt.nil _ _, Below.refl _ _⟩
            case round =>
              obtain ⟨X, rfl⟩ : ∃ w2 : World, w2 = wr := ⟨_, rfl⟩
              obtain ⟨k, SA, sc, hk, rfl, rfl, hown, hbx⟩ := hrel
              have HOWN := hide hown
              have HBX := hide hbx
              clear hown hbx
              by_cases hlt2 : k < l.length
              · obtain ⟨b0, o0, rfl, hb0, hc0⟩ := (HRW.out.grow HBX.out).at_ hlt2
                have HZ := hide (fun (h : k = 0) => show startL g f (l.take (k + 1)) = if 1 ≤ f ∧ g (f - 1) ≠ l[k].v then [f] else [] by subst h; exact start_zero g f l hlt2)
                have HPS := hide (fun (h : 0 < k) => start_snoc g f l h hlt2)
                have HK0 := hide (fun (h : k = 0) => show startL g f (l.take k) = [] by subst h; rfl)
                have hqs := start_len g f (l.take k)
                have hqk : (l.take k).length = k := by simp; omega
                have hle := HLE.out
                have j0 : (0 : Int) ≤ (k : Int) := Int.natCast_nonneg _
                have j1 : (k : Int) < (l.length : Int) := by omega
                generalize l[k] = x at *
                obtain ⟨xf, xt, xv⟩ := x
                unfold encSp at hc0
                have n0 := hc0 0 (by omega)
                have n1 := hc0 1 (by omega)
                have n2 := hc0 2 (by omega)
                simp only [List.getElem?_cons_zero, List.getElem?_cons_succ, Nat.add_zero] at n0 n1 n2
                dsimp only at HZ HPS
                obtain ⟨XB, hXB⟩ : ∃ XB, X.alloc (.cells #[.int .i64 xf, .int .i64 xt, .string xv] 70) = XB := ⟨_, rfl⟩
                have gB := new_at hXB
                have hbB : Below X.heap.size X XB := by rw [← hXB]; exact (Below.refl _ _).alloc (Nat.le_refl _) _
                have HGB := hide gB
                have HXB := hide hXB
                have HBB := hide (bstep HBX.out hbB)
                have HBBX := hide (bstep HBBV.out HBB.out)
                have HB0X := hide (bstep HBV0.out HBB.out)
                have hzx := hbB.size
                have hzv := HBX.out.size
                have HOB := hide (show OwnInt XB V.heap.size SA sc (startL g f (l.take k)) from own_block HOWN.out fun q hq => hbB.block q (own_ob HOWN.out q hq).2)
                clear gB hXB hbB hc0 hb0 hk
                by_cases hk0 : k = 0
                case pos =>
                  have T6 : ((k : Int) == 0) = true := beq_iff_eq.2 (by omega)
                  have T7 : decide ((0 : Int) < (k : Int)) = false := decide_eq_false (by omega)
                  have T7' : decide (0 < k) = false := decide_eq_false (by omega)
                  have hz0 := HZ.out hk0
                  have hk1 := HK0.out hk0
                  clear HPS HZ HK0
                  by_cases hf1 : 1 ≤ f
                  case neg =>
                    rw [if_neg (fun h => hf1 h.1)] at hz0
                    have T5 : decide (1 ≤ f) = false := decide_eq_false hf1
                    have HZ0 := hide (hz0.trans hk1.symm)
                    clear hf1 hz0 hk1 hk0
                    go_upto_region 21 with (fail)
                    rw [HXB.out]
                    go_wp2_with fail
                    exact ⟨⟨k + 1, SA, sc, hlt2, by go_num, by rw [HZ0.out], by rw [HZ0.out]; exact HOB.out, HBB.out⟩, by simp [intOf]; omega⟩
                  have T5 : decide (1 ≤ f) = true := decide_eq_true hf1
                  have hsm0 : smpT v n zs [f] = 0 := by
                    unfold smpT
                    rw [HR.out.2.1]
                    show smpE v.fin (fitE v n zs) [f] = 0
                    unfold smpE
                    rw [if_pos ⟨hf1, by have := HR.out.1.2.1; have := HR.out.1.2.2; omega⟩, if_pos (HZF.out HR.out.2.2)]
                    rfl
                  have HS0 := hide hsm0
                  have HHX := hide (wn_held ((HB0X.out.block _ (box_lt HG0.out)).trans HG0.out) ((HB0X.out.block _ (box_lt HG1.out)).trans HG1.out))
                  have r0 : Below XB.heap.size XB XB.drew := below_drew (Below.refl _ _)
                  have k0 := HHX.out XB.drew r0
                  have rc : Below XB.heap.size XB (XB.alloc (.cells #[.int .i64 f] 3)).drew := below_drew (below_al (Below.refl _ _) _)
                  have hzc : (XB.alloc (.cells #[.int .i64 f] 3)).drew.heap.size = XB.heap.size + 1 := World.size_alloc _ _
                  have gK : (XB.alloc (.cells #[.int .i64 f] 3)).drew.heap[XB.heap.size]? = some (.cells #[.int .i64 f] 3 (0, 0)) := heap_alloc_new XB _
                  have HZ0 := hide hz0
                  have HK1 := hide hk1
                  have hf1' := hf1
                  clear hsm0 hz0 hk1 hf1 hk0
                  go_upto_region 21 with (fail)
                  rw [HXB.out]
                  clear n0 n1 n2
                  go_upto_region 22 with (fail)
                  go_region_held3 (fun wx => wx.cell? ⟨w.heap.size, 0, none⟩ = some (.slice A sigs.length cA) ∧ wx.cell? ⟨w.heap.size, 1, none⟩ = some (.slice G gn cG) ∧ wx.cell? ⟨w.heap.size, 2, none⟩ = some (.int .i64 fin) ∧ wx.cell? ⟨w.heap.size + 1, 0, none⟩ = some (.int .i64 kind) ∧ wx.cell? ⟨w.heap.size + 1, 1, none⟩ = some (.int .i64 at_) ∧ wx.cell? ⟨w.heap.size + 1, 2, none⟩ = some (.string name) ∧ wx.cell? ⟨w.heap.size + 1, 3, none⟩ = some (.string value) ∧ wx.cell? ⟨w.heap.size + 1, 4, none⟩ = some (.int .i64 a) ∧ wx.cell? ⟨w.heap.size + 1, 5, none⟩ = some (.int .i64 b) ∧ wx.cell? ⟨w.heap.size + 1, 6, none⟩ = some (.int .i64 c) ∧ wx.cell? ⟨w.heap.size + 1, 7, none⟩ = some (.int .i64 d) ∧ wx.cell? ⟨w.heap.size + 1, 8, none⟩ = some (.slice KA kids.length kc) ∧ Below XB.heap.size XB wx)
                    (first | (with_reducible assumption) | (with_reducible exact k0) | (with_reducible exact HHX.out _ rc) | (with_reducible exact HHX.out _ (below_al r2 _)))
                    (first
                      | (go_at_call 18; (first | (with_reducible refine (HNEW.out XB.drew (bstep HBBX.out r0)).mono ?_; rintro e wa ⟨M, rfl, hM, hsrc, hb2⟩; have r2 := bstep r0 hb2; have hMV := Nat.le_trans r0.size hM) | (with_reducible refine (HNEW.out ((XB.alloc (.cells #[.int .i64 f] 3)).drew) (bstep HBBX.out rc)).mono ?_; rintro e wa ⟨M, rfl, hM, hsrc, hb2⟩; have r2 := bstep rc hb2; have hMV := Nat.le_trans rc.size hM)); have k2 := HHX.out wa r2; have hML := hsrc.lt; have hz2 := hb2.size)
                      | (go_at_call 37; (first | with_reducible refine (HSM0.out XB (wa.alloc (.cells #[.int .i64 f] 3)) (some ⟨wa.heap.size, 0, none⟩) HBBX.out (below_al r2 _) M hMV (hsrc.below ((Below.refl _ _).alloc (Nat.le_refl _) _)) HSM.out (fun W2 hb => ints_but (heap_alloc_new wa _) (Nat.ne_of_gt hML) hb)).mono ?_ | with_reducible refine (HSM0.out XB wa (some ⟨XB.heap.size, 0, none⟩) HBBX.out r2 M hMV hsrc HSM.out (fun W2 hb => ints_but ((hb2.block _ (by rw [hzc]; exact Nat.lt_succ_self _)).trans gK) (fun e => by rw [hzc] at hM; omega) hb)).mono ?_); rintro e wb ⟨⟨sp, sq, rfl, ser, SA1, sc1, svs, se1, rfl, rfl, se4, se5, se6⟩, c9, hs9⟩; have hs9b := hs9.2; (first | (with_reducible have r3 := but_step r2 hs9b hMV) | (with_reducible have r3 := but_step (below_al r2 _) hs9b hMV)); have k3 := HHX.out wb r3; obtain rfl : ser = 0 := se1.trans HS0.out; obtain rfl := se6 rfl; have HSV := hide se4; clear se1 se4 se5 se6 hs9 hs9b))
                  all_goals
                    obtain ⟨b9, o9, rfl, hb9, hc9⟩ := HSV.out.at_ (show 0 < ([f].map (smpG v n)).length by simp)
                    have hc9' : wb.cell? ⟨b9, o9, none⟩ = some (.string (g (f - 1))) := by
                      have h9 := hc9
                      simp only [List.map_cons, List.map_nil, List.getElem_cons_zero, Nat.add_zero] at h9
                      rw [h9, HGF.out]
                    have HGX := hide ((r3.block _ (box_lt HGB.out)).trans HGB.out)
                    have hx2 := cell_of_row wb X.heap.size 2 _ _ (0, 0) HGX.out
                    simp only [List.getElem?_toArray, List.getElem?_cons_zero, List.getElem?_cons_succ] at hx2
                    have HO9 := hide (show OwnInt wb V.heap.size SA sc (startL g f (l.take k)) from own_block HOB.out fun q hq => r3.block q (own_ob HOB.out q hq).2)
                    have HB9 := hide (bstep HBB.out r3)
                    have hz9 := r3.size
                    clear hc9 k3
                    try simp only [List.length_map, List.length_singleton]
                    by_cases hne : g (f - 1) = xv
                    · have hab : ((g (f - 1)).toList == xv.toList) = true := by rw [hne]; exact beq_self_eq_true _
                      have HZ1 := hide (show startL g f (l.take (k + 1)) = startL g f (l.take k) by rw [HZ0.out, HK1.out, if_neg (fun h => h.2 hne)])
                      clear hne
                      go_upto_region 25 with (fail)
                      go_quiet (fail)
                      have HO10 := hide (HO9.out.drewN nq)
                      have HB10 := hide (below_drewN HB9.out nq)
                      go_wp2_with fail
                      exact ⟨⟨k + 1, SA, sc, hlt2, by go_num, by rw [HZ1.out], by rw [HZ1.out]; exact HO10.out, HB10.out⟩, by simp [intOf]; omega⟩
                    · have hab : ((g (f - 1)).toList == xv.toList) = false := by
                        have := ne_bytes.2 hne
                        rw [bne, Bool.not_eq_true'] at this
                        exact this
                      have HZ1 := hide (show startL g f (l.take (k + 1)) = startL g f (l.take k) ++ [f] by rw [HZ0.out, HK1.out, if_pos ⟨hf1', hne⟩]; rfl)
                      clear hne
                      go_upto_region 25 with (fail)
                      go_quiet (fail)
                      obtain ⟨wq, hwq⟩ : ∃ wq : World, wq = wb.drewN nq := ⟨_, rfl⟩
                      rw [← hwq]
                      have HB10 := hide (show Below V.heap.size V wq by rw [hwq]; exact below_drewN HB9.out nq)
                      have HOQ := hide (show OwnInt wq V.heap.size SA sc (startL g f (l.take k)) by rw [hwq]; exact HO9.out.drewN nq)
                      have HOA := hide (World.ownsRow.alloc HOQ.out (.cells #[.int .i64 f] 3))
                      have HNW := hide (heap_alloc_new wq (.cells #[.int .i64 f] 3))
                      clear hwq
                      have hz10 := HB10.out.size
                      go_upto_region 27 with (at_builtin; (refine append_src rfl _ _ 57 rfl V.heap.size 3 i0 _ 1 8 Tryz.underlying57 hi0 iz0 iz1 iz2 rfl (by decide) (.slice SA (startL g f (l.take k)).length sc) (startL g f (l.take k)).length ((startL g f (l.take k)).map (Value.int .i64)) rfl HOA.out (some ⟨wq.heap.size, 0, none⟩) 1 1 [.int .i64 f] rfl rfl (src_block (t := 3) (fr := (0, 0)) HNW.out) (by intro u hu; simp at hu; subst hu; rfl) (by simp only [maxLen]; omega) (by omega) (by simp; omega) ?_); intro v' w5 hown5 hg5; obtain ⟨A5, c5, rfl, ho5⟩ := OwnInt.of_row (zs := startL g f (l.take (k + 1))) hown5 (by rw [HZ1.out]; simp) (by rw [HZ1.out]; simp); rw [ob_eq] at hg5; have HO5 := hide ho5; have HB5 := hide ((HB10.out.alloc HB10.out.size (.cells #[.int .i64 f] 3)).grown hg5 (by simp; omega) (fun q hq => (own_ob HO9.out q hq).1)); clear hown5 hg5 ho5)
                      go_wp2_with fail
                      exact ⟨⟨k + 1, A5, c5, hlt2, by go_num, rfl, HO5.out, HB5.out⟩, by simp [intOf]; omega⟩
                case neg =>
                  have T6 : ((k : Int) == 0) = false := beq_eq_false_iff_ne.2 (by omega)
                  have T7 : decide ((0 : Int) < (k : Int)) = true := decide_eq_true (by omega)
                  have T7' : decide (0 < k) = true := decide_eq_true (by omega)
                  have HZ1 := hide (HPS.out (by omega))
                  have hx0 := cell_of_row XB X.heap.size 0 _ _ (0, 0) HGB.out
                  simp only [List.getElem?_toArray, List.getElem?_cons_zero] at hx0
                  have HOA := hide (World.ownsRow.alloc HOB.out (.cells #[.int .i64 xf] 3))
                  have HNW := hide (heap_alloc_new XB (.cells #[.int .i64 xf] 3))
                  clear HPS HZ HK0 hk0
                  go_upto_region 21 with (fail)
                  rw [HXB.out]
                  clear n0 n1 n2
                  go_upto_region 28 with (fail)
                  go_upto_region 29 with (at_builtin; (refine append_src rfl _ _ 57 rfl V.heap.size 3 i0 _ 1 8 Tryz.underlying57 hi0 iz0 iz1 iz2 rfl (by decide) (.slice SA (startL g f (l.take k)).length sc) (startL g f (l.take k)).length ((startL g f (l.take k)).map (Value.int .i64)) rfl HOA.out (some ⟨XB.heap.size, 0, none⟩) 1 1 [.int .i64 xf] rfl rfl (src_block (t := 3) (fr := (0, 0)) HNW.out) (by intro u hu; simp at hu; subst hu; rfl) (by simp only [maxLen]; omega) (by omega) (by simp; omega) ?_); intro v' w5 hown5 hg5; obtain ⟨A5, c5, rfl, ho5⟩ := OwnInt.of_row (zs := startL g f (l.take (k + 1))) hown5 (by rw [HZ1.out]; simp) (by rw [HZ1.out]; simp); rw [ob_eq] at hg5; have HO5 := hide ho5; have HB5 := hide ((HBB.out.alloc HBB.out.size (.cells #[.int .i64 xf] 3)).grown hg5 (by simp; omega) (fun q hq => (own_ob HOB.out q hq).1)); clear hown5 hg5 ho5)
                  go_wp2_with fail
                  exact ⟨⟨k + 1, A5, c5, hlt2, by go_num, rfl, HO5.out, HB5.out⟩, by simp [intOf]; omega⟩
              · have hke : k = l.length := by omega
                subst hke
                rw [List.take_length] at HOWN
                rw [List.take_length, HST.out]
                rw [HST.out] at HOWN
                have hqs := start_len g f l
                have HLL := hide (show (evs 41 f l').length ≤ 4398046511104 by rw [← HST.out]; have := HLE.out; omega)
                obtain ⟨q37, -, -, -, q41⟩ := HLK.out X (HBX.out.block _ hml)
                have HEQ := hide (ints_eqA SA A41 sc c41 (evs 41 f l') X HOWN.out.ats (HIS.out.2.2.2.2.step HBX.out) HLL.out)
                have hq37 : (evs 37 f l').length ≤ 4001 := by have := evs_len 37 f l'; have := HLP.out; omega
                have hq39 : (evs 39 f l').length ≤ 4001 := by have := evs_len 39 f l'; have := HLP.out; omega
                clear hlt2 hqs
                go_wp2_with fail
                refine HEQ.out.mono ?_
                rintro e w6 ⟨rfl, hb6⟩
                have HB6 := hide (bstep HBX.out hb6)
                clear hb6 q37 q41
                obtain ⟨q37, -, -, -, -⟩ := HLK.out w6 (HB6.out.block _ hml)
                go_upto_region 33 with (fail)
                clear q37
                go_loopw [142] (fun i wr => HsRel (evs 37 f l').length V i wr) (fun i _ => (evs 37 f l').length - (intOf i).toNat)
                case atStart => exact ⟨0, Nat.zero_le _, rfl, HB6.out⟩
                case round =>
                  obtain ⟨Y, rfl⟩ : ∃ w2 : World, w2 = wr := ⟨_, rfl⟩
                  obtain ⟨k, hk, rfl, hby⟩ := hrel
                  have HBY := hide hby
                  clear hby
                  obtain ⟨q37, q38, q39, q40, q41⟩ := HLK.out Y (HBY.out.block _ hml)
                  by_cases hlt3 : k < (evs 37 f l').length
                  · obtain ⟨b1, o1, rfl, hb1, hc1⟩ := (HIS.out.1.step HBY.out).at_ hlt3
                    have hmem := List.getElem_mem hlt3
                    have HY := hide (has_int A39 c39 (evs 39 f l') (evs 37 f l')[k] Y (HIS.out.2.2.1.step HBY.out) (by have := evs_len 39 f l'; have := HLP.out; omega))
                    have HN := hide (fun W (hb : Below Y.heap.size Y W) => has_int A38 c38 (evs 38 f l') (evs 37 f l')[k] W (HIS.out.2.1.step (bstep HBY.out hb)) (by have := evs_len 38 f l'; have := HLP.out; omega))
                    rw [List.contains_iff_mem.2 (evs_sub HSP.out (fun x y h => (isEv_facts x y).1 h) _ hmem)] at HY
                    rw [show (evs 38 f l').contains (evs 37 f l')[k] = false by rw [Bool.eq_false_iff]; intro h; exact evs_not HSP.out (fun x y h => (isEv_facts x y).2.1 h) _ hmem (List.contains_iff_mem.1 h)] at HN
                    generalize (evs 37 f l')[k] = u at *
                    have j0 : (0 : Int) ≤ (k : Int) := Int.natCast_nonneg _
                    have j1 : (k : Int) < ((evs 37 f l').length : Int) := by omega
                    clear hmem
                    go_wp2_with first
                      | (go_at_call_of 38 A39; refine HY.out.mono ?_; rintro e w7 ⟨rfl, rfl⟩)
                      | (go_at_call_of 38 A38; refine (HN.out _ (Below.refl _ _)).mono ?_; rintro e w7 ⟨rfl, rfl⟩)
                    exact ⟨⟨k + 1, hlt3, by go_num, HBY.out⟩, by simp [intOf]; omega⟩
                  · have hke : k = (evs 37 f l').length := by omega
                    subst hke
                    clear hlt3 hk q37 q38 q40 q41
                    go_upto_region 39 with (fail)
                    clear q39
                    go_loopw [161] (fun i wr => HsRel (evs 39 f l').length V i wr) (fun i _ => (evs 39 f l').length - (intOf i).toNat)
                    case atStart => exact ⟨0, Nat.zero_le _, rfl, HBY.out⟩
                    case round =>
                      obtain ⟨Z, rfl⟩ : ∃ w2 : World, w2 = wr := ⟨_, rfl⟩
                      obtain ⟨k, hk, rfl, hbz⟩ := hrel
                      have HBZ := hide hbz
                      clear hbz
                      obtain ⟨q37, q38, q39, q40, q41⟩ := HLK.out Z (HBZ.out.block _ hml)
                      by_cases hlt4 : k < (evs 39 f l').length
                      · obtain ⟨b1, o1, rfl, hb1, hc1⟩ := (HIS.out.2.2.1.step HBZ.out).at_ hlt4
                        have hmem := List.getElem_mem hlt4
                        have HY := hide (has_int A41 c41 (evs 41 f l') (evs 39 f l')[k] Z (HIS.out.2.2.2.2.step HBZ.out) (by have := evs_len 41 f l'; have := HLP.out; omega))
                        have HN := hide (fun W (hb : Below Z.heap.size Z W) => has_int A40 c40 (evs 40 f l') (evs 39 f l')[k] W (HIS.out.2.2.2.1.step (bstep HBZ.out hb)) (by have := evs_len 40 f l'; have := HLP.out; omega))
                        rw [List.contains_iff_mem.2 (evs_sub HSP.out (fun x y h => (isEv_facts x y).2.2.1 h) _ hmem)] at HY
                        rw [show (evs 40 f l').contains (evs 39 f l')[k] = false by rw [Bool.eq_false_iff]; intro h; exact evs_not HSP.out (fun x y h => (isEv_facts x y).2.2.2 h) _ hmem (List.contains_iff_mem.1 h)] at HN
                        generalize (evs 39 f l')[k] = u at *
                        have j0 : (0 : Int) ≤ (k : Int) := Int.natCast_nonneg _
                        have j1 : (k : Int) < ((evs 39 f l').length : Int) := by omega
                        clear hmem
                        go_wp2_with first
                          | (go_at_call_of 38 A41; refine HY.out.mono ?_; rintro e w7 ⟨rfl, rfl⟩)
                          | (go_at_call_of 38 A40; refine (HN.out _ (Below.refl _ _)).mono ?_; rintro e w7 ⟨rfl, rfl⟩)
                        exact ⟨⟨k + 1, hlt4, by go_num, HBZ.out⟩, by simp [intOf]; omega⟩
                      · have hke : k = (evs 39 f l').length := by omega
                        subst hke
                        clear hlt4 hk q37 q38 q39 q40 q41
                        go_wp2_with fail
                        refine (HAW.out _).mono ?_
                        rintro e w9 ⟨rfl, hb9⟩
                        have HB9 := hide (bstep (bstep HBBV.out HBZ.out) hb9)
                        clear hb9
                        go_wp2_with fail
                        go_ret
                        exact ⟨rfl, HB9.out⟩

        end Go.Proofs.YtaaplalfggofiaaGreatDoor
