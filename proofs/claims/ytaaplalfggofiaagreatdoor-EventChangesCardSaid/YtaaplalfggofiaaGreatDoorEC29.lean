/-
  Several texts in one: CValue, New47, CTruthN, EChg, EFind. Each says at its head what it holds.
-/
import Derived.Test.YtaaplalfggofiaaGreatDoorEC28
import Derived.Test.YtaaplalfggofiaaGreatDoorEC21
import Derived.Test.YtaaplalfggofiaaGreatDoorEC26
import Derived.Test.YtaaplalfggofiaaGreatDoorEC17
import Derived.Test.YtaaplalfggofiaaGreatDoorEC7
import Derived.Deep.RegionLaw
import Derived.Deep.RegionHeld3

/-
  condition.Value: the spans of a value of a source.
-/
namespace Go.Proofs.YtaaplalfggofiaaGreatDoor
open Go.RowKit

def VRes (l : Value) (er : Int) : Ending := .returned (.tuple #[l, .int .i64 er])
def ValuePost (v : Wv) (n : Nd) (L c : Int) (M : Nat) (f t : Int) (w : World) (e : Ending) (w' : World) : Prop :=
  (¬ inR v f t ∧ e = VRes (.slice none 0 0) 2 ∧ SrcTo w M v L c w') ∨
  (inR v f t ∧ typeF n = none ∧ e = VRes (.slice none 0 0) 7 ∧ SrcTo w M v L c w') ∨
  (inR v f t ∧ (∃ p, typeF n = some p) ∧ ∃ zs, SigsOf n zs ∧
    ((fitE v n zs ≠ 0 ∧ L < 0 ∧ e = VRes (.slice none 0 0) (fitE v n zs) ∧ ∃ c', SrcTo w M v L c' w') ∨
     (fitE v n zs = 0 ∧ (L < 0 ∨ c + allC v f t zs ≤ L) ∧ SrcTo w M v L (c + allC v f t zs) w' ∧ ∃ (A : Option Addr) (ca : Nat) (l : List Spn), e = VRes (.slice A l.length ca) 0 ∧
       OwnSp w' w.heap.size A ca l ∧ Spans (fun u => valF (envW v u) n) f t l ∧ l.length ≤ 4001) ∨
     (fitE v n zs = 0 ∧ 0 ≤ L ∧ L < c + allC v f t zs ∧ e = VRes (.slice none 0 0) 14 ∧ ∃ c', SrcTo w M v L c' w')))

set_option maxRecDepth 100000 in
set_option maxHeartbeats 4000000 in
/-- the closure that spans calls -/
theorem vcl_any (env : Int → ByteArray) (n : Nd) (p : Int × Int) (hp : typeF n = some p) (Bm q N : Nat) (w : World) (ht : TreesAt w (Lo w.heap.size) n.KA n.kids) (hm : MapS w Bm q env) (hok : okF n) (he : EnvOk env n) (hf : FewOk 60 n) (hN : w.heap[N]? = some (.cells (cNd n).toArray 28 (0, 0))) :
    Calls Tryz.prog 86 #[.map (some Bm), .pointer (some ⟨N, 0, none⟩)] w (RetV (.string (valF env n)) w) := by
  have hcall := cval_of hp w Bm q ht hm hok he hf
  clear hm hok he hf ht hp
  generalize valF env n = v at *
  obtain ⟨m1, m2, m3, m4, m5, m6, m7, m8, mK, mc, ml⟩ := n
  unfold cNd at hcall hN
  dsimp only at hcall hN
  have HC := hide hcall
  obtain ⟨y0, y1, y2, y3, y4, y5, y6, y7, y8⟩ := box9 hN
  clear hcall hN
  go_enter Tryz.func86, Tryz.ntmps86
  go_wp2_with (go_at_call 87; refine HC.out.mono ?_; rintro e w2 ⟨rfl, hb2⟩; have HB2 := hide hb2; clear hb2)
  go_ret
  exact ⟨rfl, HB2.out⟩
theorem enters_V1 : EntersF 86 := fun args w => by
  first | exact run_callFunc_enter _ _ _ | kernel_rfl
theorem row_val {v : Wv} {n : Nd} {zs : List Int} (hz : SigsOf n zs) (hok : okF n) (u : Int) : valF (envL zs ((zs.map (gOf v)).map (· u))) n = valF (envW v u) n :=
  (val_congr n fun x hx => (envL_at v u ((hz.2.2.1 x (sig_I64 n hok x hx)).2 hx)).symm).symm

set_option maxRecDepth 100000 in
set_option maxHeartbeats 8000000 in
theorem value_any2 (v : Wv) (L c : Int) (M : Nat) (n : Nd) (f t : Int) (w : World) (h : SourceAt w M v L c) (hv : SmallOk v) (ht : TreesAt w (Un M w.heap.size) n.KA n.kids) (hok : okF n) (hf60 : FewOk 60 n) (hsz : n.fold (fun m l => m.value.size ≤ 130 ∧ ∀ p ∈ l, p))
    (h0 : 0 ≤ c) (h1 : c ≤ 100000) (hL : L < 0 ∨ c ≤ L) (hfit : 0 ≤ L → inR v f t ∧ (∃ p, typeF n = some p) ∧ ∀ x ∈ sigF n, sigE v n x = 0) :
    Calls Tryz.prog 36 #[srcV M, .agg (cNd n).toArray, .int .i64 f, .int .i64 t] w (ValuePost v n L c M f t w) := by
  have hM := h.lt
  have hgd := fun (hr : ∃ p, typeF n = some p) => Gd.ev (n := n) (.inr hr)
  have HROWS := hide (fun (W : World) (hs : SrcTo w M v L c W) (hi : inR v f t) (hr : ∃ p, typeF n = some p) => rows_any v L c M n f t W hs.1 hv (tree_src ht hs) hok hf60.nodes (hgd hr) h0 h1 hL hi.1 hi.2.1 hi.2.2 (fun h2 zs z1 z2 => fitE_ok.2 fun x hx => (hfit h2).2.2 x ((z2 x (z1 x hx)).1 hx)))
  have HTYP := hide (fun (W : World) (hs : SrcTo w M v L c W) => type_any n W ((tree_src ht hs).more fun _ => un_lo))
  have HWI := hide (fun (W : World) (hs : SrcTo w M v L c W) => within_any v L c M f t W hs.1)
  have HSP := hide (fun (zs : List Int) (hz : SigsOf n zs) (p : Int × Int) (hp : typeF n = some p) (hfe : fitE v n zs = 0) (W : World) (c' : Int) (hs : SrcTo w M v L c' W) (RA ZA : Option Addr) (rc zc : Nat) (rows : List RwM) (hR : RwsAt W (Lo W.heap.size) RA rows) (hZ : IntsAt W W.heap.size ZA zs) (hrl : rows.length ≤ 4001) (hcov : Cov (zs.map (gOf v)) f (t + 1) (rows.map RwM.rw)) (N : Nat) (hN : W.heap[N]? = some (.cells (cNd n).toArray 28 (0, 0))) =>
    spans_any 86 #[.pointer (some ⟨N, 0, none⟩)] enters_V1 (fun vs => valF (envL zs vs) n) RA ZA rc zc rows zs W hR hZ hz.1 hz.2.1 hrl
      (by have := nodup_few v.sigs.length hz.1 (fun x hx => ⟨(sigE_zero (fitE_ok.1 hfe x hx)).1, (sigE_zero (fitE_ok.1 hfe x hx)).2.1⟩); have := hv.len; omega)
      (fun r hr => by
        obtain ⟨k1, k2, k3, k4⟩ := cov_mem hcov (List.mem_map.2 ⟨r, hr, rfl⟩)
        have : r.vs = (zs.map (gOf v)).map (· r.f) := k4 r.f (Int.le_refl _) k2
        rw [this]; simp)
      (fun r hr b hb => by
        obtain ⟨k1, k2, k3, k4⟩ := cov_mem hcov (List.mem_map.2 ⟨r, hr, rfl⟩)
        have h9 : r.vs = (zs.map (gOf v)).map (· r.f) := k4 r.f (Int.le_refl _) k2
        rw [h9] at hb
        exact (row_env hv hz hok hfe hsz r.f).2.2 b hb)
      (fun r hr2 W2 Bm q hb hm => by
        obtain ⟨k1, k2, k3, k4⟩ := cov_mem hcov (List.mem_map.2 ⟨r, hr2, rfl⟩)
        have h9 : r.vs = (zs.map (gOf v)).map (· r.f) := k4 r.f (Int.le_refl _) k2
        have hs2 := hs.below hb
        exact vcl_any (envL zs r.vs) n p hp Bm q N W2 ((tree_src ht hs2).more fun _ => un_lo) hm hok (by rw [h9]; exact (row_env hv hz hok hfe hsz r.f).1) hf60 ((hb.block _ (box_lt hN)).trans hN)))
  have HSPN := hide (fun (zs : List Int) (hz : SigsOf n zs) (rows : List RwM) (hne : rows ≠ []) (hcov : Cov (zs.map (gOf v)) f (t + 1) (rows.map RwM.rw)) => show Spans (fun u => valF (envW v u) n) f t (spL (fun vs => valF (envL zs vs) n) (rows.map RwM.rw)) from by
    have := spL_spans (F := fun vs => valF (envL zs vs) n) hcov (by simpa using hne)
    rw [Int.add_sub_cancel] at this
    exact this.congr fun u _ _ => (row_val hz hok u).symm)
  clear ht hok hf60 hsz hgd hfit
  obtain ⟨rz, hrz⟩ : ∃ rz, typeF n = rz := ⟨_, rfl⟩
  have HRZ := hide hrz
  rw [hrz] at HTYP
  clear hrz
  have HV := hide hv
  obtain ⟨kind, at_, name, value, a, b, c0, d, KA, kc, kids⟩ := n
  unfold cNd at HROWS HTYP HSP ⊢
  dsimp only at HROWS HTYP HSP ⊢
  generalize hnn : Nd.mk kind at_ name value a b c0 d KA kc kids = n at *
  obtain ⟨W0, hW0⟩ : ∃ W0, w.alloc (.cells #[.int .i64 kind, .int .i64 at_, .string name, .string value, .int .i64 a, .int .i64 b, .int .i64 c0, .int .i64 d, .slice KA kids.length kc] 28) = W0 := ⟨_, rfl⟩
  have p0 := new_at hW0
  have hb0 : Below w.heap.size w W0 := by rw [← hW0]; exact (Below.refl _ _).alloc (Nat.le_refl _) _
  have HS0 := hide (SrcTo.start h hb0)
  have HG0 := hide p0
  have HW0 := hide hW0
  have hl0 := box_lt p0
  obtain ⟨y0, y1, y2, y3, y4, y5, y6, y7, y8⟩ := box9 p0
  have HW := hide (HWI.out W0 HS0.out)
  have HR := hide (HTYP.out W0 HS0.out)
  clear hW0 p0 hb0 h hnn hv
  unfold srcV at HROWS HW ⊢
  go_enter Tryz.func36, Tryz.ntmps36
  go_upto_region 1 with (fail)
  rw [HW0.out]
  by_cases hin : inR v f t
  · have hd : (decide (0 ≤ f) && decide (f ≤ t) && decide (t ≤ v.fin)) = true := by rw [decide_eq_true hin.1, decide_eq_true hin.2.1, decide_eq_true hin.2.2]; rfl
    rw [hd] at HW
    have HIN := hide hin
    clear hd hin
    cases rz with
    | none =>
      unfold typV at HR
      dsimp only at HR
      go_wp2_with first
        | (go_at_call 55; refine HW.out.mono ?_; rintro e w2 ⟨rfl, rfl⟩)
        | (go_at_call 35; refine HR.out.mono ?_; rintro e w3 ⟨rfl, hb3⟩; have HS3 := hide (HS0.out.below hb3); clear hb3)
      go_ret2
      exact .inr (.inl ⟨HIN.out, HRZ.out, rfl, HS3.out⟩)
    | some p =>
      obtain ⟨pk, pw⟩ := p
      unfold typV at HR
      dsimp only at HR
      have hR := fun (W : World) (hb : Below W0.heap.size W0 W) => HROWS.out W (HS0.out.below hb) HIN.out ⟨_, HRZ.out⟩
      have HROW := hide hR
      have hchain := fun (W : World) (hb : Below W0.heap.size W0 W) => (hb.block _ hl0).trans HG0.out
      have HCH := hide hchain
      clear hR hchain
      go_upto_region 6 with first
        | (go_at_call 55; refine HW.out.mono ?_; rintro e w2 ⟨rfl, rfl⟩)
        | (go_at_call 35; refine HR.out.mono ?_; rintro e w3 ⟨rfl, hb3⟩)
      have HN3 := hide (HCH.out w3 hb3)
      clear y0 y1 y2 y3 y4 y5 y6 y7 y8
      obtain ⟨y0, y1, y2, y3, y4, y5, y6, y7, y8⟩ := box9 HN3.out
      have HS3 := hide (HS0.out.below hb3)
      have HRW := hide (HROW.out w3 hb3)
      have hz3 := hb3.size
      clear hb3
      go_wp2_with fail
      refine HRW.out.mono ?_
      rintro e w4 ⟨zs, zn, zI, zm, zp, ⟨hfe, hLn, rfl, c9, hs4⟩ | ⟨hfe, hrm, RA, rc, rows, ZA, zc, rfl, hrw, hzi, hcov, hne, hrl, hs4⟩ | ⟨hfe, hLp, hrm, rfl, c9, hs4⟩⟩
      · have HS4 := hide (HS3.out.trans hs4)
        have T1 : (fitE v n zs != 0) = true := by simp [hfe]
        have HFE := hide hfe
        have HZZ := hide (show SigsOf n zs from ⟨zn, zI, zm, zp⟩)
        clear hs4 hfe y0 y1 y2 y3 y4 y5 y6 y7 y8 zn zI zm zp
        go_wp2_with fail
        go_ret2
        exact .inr (.inr ⟨HIN.out, ⟨_, HRZ.out⟩, zs, HZZ.out, .inl ⟨HFE.out, hLn, rfl, c9, HS4.out⟩⟩)
      · have hN4 := (hs4.2.block _ (by omega) (fun e => by injection e with e; omega)).trans HN3.out
        have hS4 := HS3.out.trans hs4
        have hZZ : SigsOf n zs := ⟨zn, zI, zm, zp⟩
        have hspc := HSP.out zs hZZ _ HRZ.out hfe w4 _ hS4 RA ZA rc zc rows ⟨hrw.row.more fun b hb => hb.2, fun r hr => (hrw.each r hr).more fun b hb => hb.2⟩ hzi hrl hcov w.heap.size hN4
        have hspn := HSPN.out zs hZZ rows hne hcov
        have hll := spL_len (fun vs => valF (envL zs vs) n) (rows.map RwM.rw)
        rw [List.length_map] at hll
        generalize spL (fun vs => valF (envL zs vs) n) (rows.map RwM.rw) = l at *
        have hl4 : l.length ≤ 4001 := by omega
        have HSPC := hide hspc
        have HSPN2 := hide hspn
        have HS4 := hide hS4
        have HZZ := hide hZZ
        have HFE := hide hfe
        have T1 : decide ((4096 : Int) < (l.length : Int)) = false := decide_eq_false (by omega)
        have hws4 := hS4.2.size
        clear hs4 hN4 hS4 hZZ hspc hspn hfe hrw hzi hcov hne hll zn zI zm zp y0 y1 y2 y3 y4 y5 y6 y7 y8
        go_wp2_with fail
        refine HSPC.out.mono ?_
        rintro e w5 ⟨A5, c5, rfl, ho5, hb5⟩
        have HO5 := hide (show OwnSp w5 w.heap.size A5 c5 l from Joins.ownsRow_le ho5 hws4)
        have HS5 := hide (HS4.out.below hb5)
        clear ho5 hb5
        go_wp2_with fail
        go_ret2
        exact .inr (.inr ⟨HIN.out, ⟨_, HRZ.out⟩, zs, HZZ.out, .inr (.inl ⟨HFE.out, hrm, HS5.out, A5, c5, l, rfl, HO5.out, HSPN2.out, hl4⟩)⟩)
      · have HS4 := hide (HS3.out.trans hs4)
        have HFE := hide hfe
        have HZZ := hide (show SigsOf n zs from ⟨zn, zI, zm, zp⟩)
        clear hs4 hfe y0 y1 y2 y3 y4 y5 y6 y7 y8 zn zI zm zp
        go_wp2_with fail
        go_ret2
        exact .inr (.inr ⟨HIN.out, ⟨_, HRZ.out⟩, zs, HZZ.out, .inr (.inr ⟨HFE.out, hLp, hrm, rfl, c9, HS4.out⟩)⟩)
  · have hd : (decide (0 ≤ f) && decide (f ≤ t) && decide (t ≤ v.fin)) = false := by
      rw [Bool.eq_false_iff]
      intro h9
      rw [Bool.and_eq_true, Bool.and_eq_true] at h9
      exact hin ⟨of_decide_eq_true h9.1.1, of_decide_eq_true h9.1.2, of_decide_eq_true h9.2⟩
    rw [hd] at HW
    have HIN := hide hin
    clear hd hin
    go_wp2_with (go_at_call 55; refine HW.out.mono ?_; rintro e w2 ⟨rfl, rfl⟩)
    go_ret2
    exact .inl ⟨HIN.out, rfl, HS0.out⟩

end Go.Proofs.YtaaplalfggofiaaGreatDoor

/-
  wavestorelaw47.New: a source of a wave.
-/
namespace Go.Proofs.YtaaplalfggofiaaGreatDoor
open Go.RowKit

set_option maxRecDepth 100000 in
theorem new_any (v : Wv) (w : World) (h : SigsAt w (Lo w.heap.size) v.A v.sigs) : Calls Tryz.prog 18 #[.agg (cWv v).toArray] w fun e w' => ∃ M, e = .returned (.pointer (some ⟨M, 0, none⟩)) ∧ w.heap.size ≤ M ∧ SourceAt w' M v (-1) 0 ∧ Below w.heap.size w w' := by
  unfold cWv
  obtain ⟨W0, hW0⟩ : ∃ W0, w.alloc (.cells #[.slice v.A v.sigs.length v.cA, .slice v.G v.gn v.cG, .int .i64 v.fin] 25) = W0 := ⟨_, rfl⟩
  have g0 : W0.heap[w.heap.size]? = some (.cells #[.slice v.A v.sigs.length v.cA, .slice v.G v.gn v.cG, .int .i64 v.fin] 25 (0, 0)) := by rw [← hW0]; exact heap_alloc_new w _
  have hb0 : Below w.heap.size w W0 := by rw [← hW0]; exact (Below.refl _ _).alloc (Nat.le_refl _) _
  have c0 := cell_of_row W0 w.heap.size 0 _ _ (0, 0) g0
  have c1 := cell_of_row W0 w.heap.size 1 _ _ (0, 0) g0
  have c2 := cell_of_row W0 w.heap.size 2 _ _ (0, 0) g0
  simp only [List.getElem?_toArray, List.getElem?_cons_zero, List.getElem?_cons_succ] at c0 c1 c2
  have HW0 := hide hW0
  have hz := hb0.size
  clear hW0 g0
  go_enter Tryz.func18, Tryz.ntmps18
  go_upto_region 1 with (fail)
  rw [HW0.out]
  go_wp2_with fail
  go_ret
  have hb1 : Below w.heap.size w (W0.alloc (memO v (-1) 0)) := hb0.alloc hz _
  exact ⟨W0.heap.size, rfl, hz, ⟨heap_alloc_new W0 (memO v (-1) 0), (h.stay (stay_below hb1 fun _ h => h)).more fun b hb => Nat.lt_of_lt_of_le hb hz⟩, hb1⟩

end Go.Proofs.YtaaplalfggofiaaGreatDoor

/-
  condition.Truth at a source just made: what a law about a condition of a small wave needs.
-/
namespace Go.Proofs.YtaaplalfggofiaaGreatDoor
open Go.RowKit

theorem fit_good {v : Wv} {n : Nd} {zs : List Int} (hz : SigsOf n zs) (hok : okF n) : fitE v n zs = 0 ↔ ∀ x ∈ sigF n, sigE v n x = 0 := by
  rw [fitE_ok]
  exact ⟨fun h x hx => h x ((hz.2.2.1 x (sig_I64 n hok x hx)).2 hx), fun h x hx => h x ((hz.2.2.1 x (hz.2.1 x hx)).1 hx)⟩
theorem sigs_same {n : Nd} {zs ys : List Int} (hz : SigsOf n zs) (hy : SigsOf n ys) : zs = ys := by
  have hp : zs.Perm ys := (List.perm_ext_iff_of_nodup hz.1 hy.1).2 fun x => ⟨fun h => (hy.2.2.1 x (hz.2.1 x h)).2 ((hz.2.2.1 x (hz.2.1 x h)).1 h), fun h => (hz.2.2.1 x (hy.2.1 x h)).2 ((hy.2.2.1 x (hy.2.1 x h)).1 h)⟩
  exact hp.eq_of_pairwise (fun a b _ _ h1 h2 => by omega) hz.2.2.2 hy.2.2.2
theorem few_short {most : Nat} (n : Nd) : FewOk most n → n.fold (fun m l => m.value.size ≤ 130 ∧ ∀ p ∈ l, p) := by
  induction n using Nd.ind with
  | h n ih =>
  intro h
  have h2 := (FewOk_eq most n).1 h
  rw [Nd.fold_eq]
  refine ⟨h2.2.1, fun p hp => ?_⟩
  obtain ⟨k, hk, rfl⟩ := List.mem_map.1 hp
  exact ih k hk (h2.2.2.2 k hk)
theorem tree_un {w w' : World} {M : Nat} {n : Nd} (h : TreesAt w (Lo w.heap.size) n.KA n.kids) (hb : Below w.heap.size w w') (hM : w.heap.size ≤ M) : TreesAt w' (Un M w'.heap.size) n.KA n.kids :=
  (h.stay (stay_below hb fun _ h => h)).more fun b hb2 => ⟨Nat.lt_of_lt_of_le hb2 hb.size, fun e => by subst e; exact absurd hb2 (Nat.not_lt.2 hM)⟩
end Go.Proofs.YtaaplalfggofiaaGreatDoor

/-
  event.changes: the times at which a value changes as a kind of event says.
-/
namespace Go.Proofs.YtaaplalfggofiaaGreatDoor
open Go.RowKit

theorem infoIn : (Tryz.prog.info? 3).map (fun i => (i.zero, i.size, i.bytes)) = some (some (.int .i64 0), 1, 8) := by kernel_rfl
def chg1 (kind f : Int) (x y : Spn) : List Int := if f ≤ y.f ∧ isEv kind x.v y.v = true then [y.f] else []
/-- the events among the first j changes of spans -/
def chgT (kind f : Int) (l : List Spn) : Nat → List Int
  | 0 => []
  | j + 1 => chgT kind f l j ++ (match l[j]?, l[j + 1]? with | some x, some y => chg1 kind f x y | _, _ => [])
theorem chgT_len (kind f : Int) (l : List Spn) : ∀ j, (chgT kind f l j).length ≤ j
  | 0 => Nat.le_refl _
  | j + 1 => by
    have := chgT_len kind f l j
    rw [chgT, List.length_append]
    split
    · unfold chg1; split <;> simp <;> omega
    · simp; omega
def EcRel (kind f : Int) (l : List Spn) (base : Nat) (w : World) (o i : Value) (wr : World) : Prop :=
  ∃ (j : Nat) (A : Option Addr) (c : Nat), (j = 0 ∨ j + 1 ≤ l.length) ∧ i = .int .i64 ((j : Int) + 1) ∧ o = .slice A (chgT kind f l j).length c ∧ OwnInt wr base A c (chgT kind f l j) ∧ Below w.heap.size w wr
def EcPost (v : Wv) (n : Nd) (kind f t : Int) (M : Nat) (w : World) (e : Ending) (w' : World) : Prop :=
  ∃ (l : List Spn) (A : Option Addr) (c : Nat), Spans (fun u => valF (envW v u) n) (max (f - 1) 0) t l ∧ l.length ≤ 4001 ∧ e = .returned (.tuple #[.slice A (chgT kind f l (l.length - 1)).length c, .int .i64 0]) ∧ OwnInt w' w.heap.size A c (chgT kind f l (l.length - 1)) ∧ ∃ c', SrcTo w M v (-1) c' w'

set_option maxRecDepth 100000 in
set_option maxHeartbeats 80000000 in
theorem chg_any (v : Wv) (c : Int) (M : Nat) (n : Nd) (kind f t : Int) (w : World) (h : SourceAt w M v (-1) c) (hv : SmallOk v) (ht : TreesAt w (Un M w.heap.size) n.KA n.kids) (hok : okF n) (hf60 : FewOk 60 n)
    (h0 : 0 ≤ c) (h1 : c ≤ 100000) (hp : ∃ p, typeF n = some p) (hfit : ∀ x ∈ sigF n, sigE v n x = 0) (hk : I64 kind) (hf : 0 ≤ f) (hft : f ≤ t) (htf : t ≤ v.fin) :
    Calls Tryz.prog 159 #[srcV M, .int .i64 kind, .agg (cNd n).toArray, .int .i64 f, .int .i64 t] w (EcPost v n kind f t M w) := by
  obtain ⟨i0, hi0, hz0, hz1, hz2⟩ := info_parts infoIn
  have hM := h.lt
  have hfin := hv.fin.2
  have hfr : 0 ≤ max (f - 1) 0 ∧ max (f - 1) 0 ≤ t := by omega
  have HVAL := hide (fun (W : World) (hs : SrcTo w M v (-1) c W) => value_any2 v (-1) c M n (max (f - 1) 0) t W hs.1 hv (tree_src ht hs) hok hf60 (few_short n hf60) h0 h1 (.inl (by decide)) (fun h => by omega))
  have HIR := hide (show inR v (max (f - 1) 0) t from ⟨hfr.1, hfr.2, htf⟩)
  have HP := hide hp
  have HFZ := hide (fun (zs : List Int) (hz : SigsOf n zs) => (fit_good hz hok).2 hfit)
  have HIS := hide (fun (a b : ByteArray) (W : World) => is_any kind a b W hk)
  obtain ⟨n', hn'⟩ : ∃ n', n' = n := ⟨_, rfl⟩
  have HE := hide (show ∀ e w', EcPost v n' kind f t M w e w' → EcPost v n kind f t M w e w' by rw [hn']; exact fun _ _ h => h)
  rw [← hn'] at HVAL HP HFZ
  clear hp hfit hf60 hok
  have hcn : (cNd n').toArray = (cNd n).toArray := by rw [hn']
  rw [hcn] at HVAL
  clear hcn hn'
  refine Calls.mono ?_ (fun e w' hh => HE.out e w' hh)
  clear HE
  obtain ⟨nk, at_, name, value, a, b, c0, d, KA, kc, kids⟩ := n
  unfold cNd at HVAL ⊢
  dsimp only at HVAL ⊢
  obtain ⟨W0, hW0⟩ : ∃ W0, w.alloc (.cells #[.int .i64 nk, .int .i64 at_, .string name, .string value, .int .i64 a, .int .i64 b, .int .i64 c0, .int .i64 d, .slice KA kids.length kc] 28) = W0 := ⟨_, rfl⟩
  have g0 := new_at hW0
  have hb0 : Below w.heap.size w W0 := by rw [← hW0]; exact (Below.refl _ _).alloc (Nat.le_refl _) _
  have HS0 := hide (SrcTo.start h hb0)
  have HB0 := hide hb0
  have HW0 := hide hW0
  have HVC := hide (HVAL.out W0 HS0.out)
  obtain ⟨y0, y1, y2, y3, y4, y5, y6, y7, y8⟩ := box9 g0
  clear ht g0 hb0 hW0 h HVAL
  unfold srcV at HVC ⊢
  go_enter Tryz.func159, Tryz.ntmps159
  go_upto_region 1 with (fail)
  rw [HW0.out]
  go_wp2_with fail
  refine HVC.out.mono ?_
  rintro e w2 (⟨g1, rfl, g2⟩ | ⟨g0, g1, rfl, g2⟩ | ⟨gin, gp, zs, gz, ⟨gfe, _, rfl, c', g3⟩ | ⟨gfe, grm, g3, A, ca, l, rfl, go, gs, gl⟩ | ⟨_, g2, _⟩⟩)
  · exact absurd HIR.out g1
  · obtain ⟨p, hp⟩ := HP.out; rw [hp] at g1; cases g1
  · exact absurd (HFZ.out zs gz) gfe
  · unfold VRes
    have HS2 := hide (HS0.out.trans g3)
    have HROW := hide (show Row w2 (Lo w2.heap.size) 3 encSp A l from go.row.more fun _ h => h.2.1)
    have HSP := hide gs
    have hlp : 0 < l.length := by
      cases l with
      | nil => exact gs.elim
      | cons x r => simp
    have hws := HS2.out.2.size
    have HEND := hide (fun (B : Option Addr) (cb : Nat) (wr : World) (hb : Below w2.heap.size w2 wr) (ho : OwnInt wr w2.heap.size B cb (chgT kind f l (l.length - 1))) => show EcPost v n' kind f t M w (.returned (.tuple #[.slice B (chgT kind f l (l.length - 1)).length cb, .int .i64 0])) wr from ⟨l, B, cb, HSP.out, gl, rfl, ho.lower hws, _, HS2.out.below hb⟩)
    clear gs go g3 gz gfe grm gp gin y0 y1 y2 y3 y4 y5 y6 y7 y8
    go_upto_region 13 with (fail)
    go_loopw [19, 20] (fun o i wr => EcRel kind f l w2.heap.size w2 o i wr) (fun _ i _ => l.length - (intOf i).toNat)
    case atStart => exact ⟨0, none, 0, .inl rfl, rfl, rfl, OwnInt.nil _ _, Below.refl _ _⟩
    case round =>
      obtain ⟨V, rfl⟩ : ∃ w2 : World, w2 = wr := ⟨_, rfl⟩
      obtain ⟨j, B, cb, hj, rfl, rfl, hown, hbr⟩ := hrel
      have HOWN := hide hown
      have HBR := hide hbr
      have hll := chgT_len kind f l j
      clear hown hbr
      by_cases hlt : j + 1 < l.length
      · obtain ⟨b0, o0, rfl, hb0, hc0⟩ := (HROW.out.grow HBR.out).at_ (show j < l.length by omega)
        obtain ⟨b1, o1, e1, hb1, hc1⟩ := (HROW.out.grow HBR.out).at_ hlt
        injection e1 with e1
        injection e1 with e1 e2
        subst e1 e2
        have HT := hide (show chgT kind f l (j + 1) = chgT kind f l j ++ chg1 kind f l[j] l[j + 1] by rw [chgT, List.getElem?_eq_getElem (show j < l.length by omega), List.getElem?_eq_getElem hlt])
        generalize l[j] = x at *
        generalize l[j + 1] = y at *
        obtain ⟨xf, xt, xv⟩ := x
        obtain ⟨yf, yt, yv⟩ := y
        unfold encSp at hc0 hc1
        have a2 := hc0 2 (by omega)
        have n0 := hc1 0 (by omega)
        have n2 := hc1 2 (by omega)
        simp only [List.getElem?_cons_zero, List.getElem?_cons_succ, Nat.add_zero] at a2 n0 n2
        unfold chg1 at HT
        dsimp only at HT
        clear hc0 hc1
        by_cases hfy : f ≤ yf
        · have T1 : decide (f ≤ yf) = true := decide_eq_true hfy
          obtain ⟨z, hz⟩ : ∃ z, isEv kind xv yv = z := ⟨_, rfl⟩
          have HC := hide (HIS.out xv yv V.drew)
          rw [hz] at HC HT
          have hx : ∀ W : World, Below V.heap.size V W → W.cell? ⟨b0, o0 + j * 3 + 2, none⟩ = some (.string xv) ∧ W.cell? ⟨b0, o0 + (j + 1) * 3, none⟩ = some (.int .i64 yf) ∧ W.cell? ⟨b0, o0 + (j + 1) * 3 + 2, none⟩ = some (.string yv) := fun W hb => by
            rw [hb.cell (p := ⟨b0, o0 + j * 3 + 2, none⟩) hb1, hb.cell (p := ⟨b0, o0 + (j + 1) * 3, none⟩) hb1, hb.cell (p := ⟨b0, o0 + (j + 1) * 3 + 2, none⟩) hb1]
            exact ⟨a2, n0, n2⟩
          have k0 := hx V.drew (below_drew (Below.refl _ _))
          have HX := hide hx
          have hj0 : (0 : Int) ≤ (j : Int) + 1 := by omega
          have hj1 : (0 : Int) ≤ (j : Int) := by omega
          have hj2 : (j : Int) < (l.length : Int) := by omega
          have hj3 : (j : Int) + 1 < (l.length : Int) := by omega
          have hw1 : IntKind.i64.wrap ((j : Int) + 1 - 1) = (j : Int) := by rw [IntWalk.i64_in _ (by omega)]; omega
          have hw2 : IntKind.i64.wrap (j : Int) = (j : Int) := by rw [IntWalk.i64_in _ (by omega)]
          clear hx hz
          go_upto_region 15 with (fail)
          go_region_held3 (fun wx => wx.cell? ⟨b0, o0 + j * 3 + 2, none⟩ = some (.string xv) ∧ wx.cell? ⟨b0, o0 + (j + 1) * 3, none⟩ = some (.int .i64 yf) ∧ wx.cell? ⟨b0, o0 + (j + 1) * 3 + 2, none⟩ = some (.string yv))
            (first | (with_reducible assumption) | exact k0)
            (first
              | (go_at_call 211
                 refine HC.out.mono ?_
                 rintro e w3 ⟨rfl, hb3⟩
                 have hb4 := bstep (below_drew (Below.refl V.heap.size V)) hb3
                 have HB3 := hide (bstep HBR.out hb4)
                 have k3 := HX.out w3 hb4
                 have HO3 := hide (show OwnInt w3 w2.heap.size B cb (chgT kind f l j) from own_block HOWN.out fun g hg => hb4.block g (own_ob HOWN.out g hg).2)
                 clear hb3 hb4))
          obtain ⟨-, k31, -⟩ := k3
          cases z with
          | false =>
            have hnn : ¬ (f ≤ yf ∧ false = true) := fun h => by cases h.2
            rw [if_neg hnn, List.append_nil] at HT
            clear hnn hfy
            go_wp2_with fail
            exact ⟨⟨j + 1, _, cb, .inr hlt, by go_num, by rw [HT.out], by rw [HT.out]; exact HO3.out, HB3.out⟩, by simp [intOf]; omega⟩
          | true =>
            rw [if_pos ⟨hfy, rfl⟩] at HT
            have HOA := hide (World.ownsRow.alloc HO3.out (.cells #[.int .i64 yf] 3))
            have HNW := hide (heap_alloc_new w3 (.cells #[.int .i64 yf] 3))
            have hz3 := HB3.out.size
            clear hfy
            go_upto_region 16 with fail
            go_wp2_with (at_builtin; (refine append_src rfl _ _ 57 rfl w2.heap.size 3 i0 _ 1 8 Tryz.underlying57 hi0 hz0 hz1 hz2 rfl (by decide) (.slice B (chgT kind f l j).length cb) (chgT kind f l j).length ((chgT kind f l j).map (Value.int .i64)) rfl HOA.out (some ⟨w3.heap.size, 0, none⟩) 1 1 [.int .i64 yf] rfl rfl (src_block (t := 3) (fr := (0, 0)) HNW.out) (by intro u hu; simp at hu; subst hu; rfl) (by simp only [maxLen]; omega) (by omega) (by simp; omega) ?_); intro v' w5 hown5 hg5; obtain ⟨A5, c5, rfl, ho5⟩ := OwnInt.of_row (zs := chgT kind f l (j + 1)) hown5 (by rw [HT.out]; simp) (by rw [HT.out]; simp); rw [ob_eq] at hg5; have HO5 := hide ho5; have HB5 := hide ((HB3.out.alloc HB3.out.size (.cells #[.int .i64 yf] 3)).grown hg5 (by simp; omega) (fun g hg => (own_ob HOWN.out g hg).1)); clear hown5 hg5 ho5)
            exact ⟨⟨j + 1, A5, c5, .inr hlt, by go_num, rfl, HO5.out, HB5.out⟩, by simp [intOf]; omega⟩
        · have T1 : decide (f ≤ yf) = false := decide_eq_false hfy
          rw [if_neg (fun h => hfy h.1), List.append_nil] at HT
          clear hfy
          go_upto_region 15 with (fail)
          go_quiet (fail)
          have HO2 := hide (HOWN.out.drewN nq)
          have HB2 := hide (below_drewN HBR.out nq)
          go_wp2_with fail
          exact ⟨⟨j + 1, _, cb, .inr hlt, by go_num, by rw [HT.out], by rw [HT.out]; exact HO2.out, HB2.out⟩, by simp [intOf]; omega⟩
      · have hje : j = l.length - 1 := by omega
        subst hje
        have HF := hide (HEND.out B cb V HBR.out HOWN.out)
        clear hlt
        go_wp2_with fail
        go_ret2
        exact HF.out
  · omega

end Go.Proofs.YtaaplalfggofiaaGreatDoor

/-
  event.find at an event of the kinds without conditions.
-/
namespace Go.Proofs.YtaaplalfggofiaaGreatDoor
open Go.RowKit

set_option maxRecDepth 100000 in
set_option maxHeartbeats 8000000 in
theorem find_simple (v : Wv) (c : Int) (M : Nat) (kind at_ : Int) (name value : ByteArray) (a b c0 d : Int) (KA : Option Addr) (kc : Nat) (x : Nd) (f t : Int) (w : World) (h : SourceAt w M v (-1) c) (hv : SmallOk v) (ht : TreesAt w (Un M w.heap.size) KA [x]) (hok : okF x) (hf60 : FewOk 60 x)
    (h0 : 0 ≤ c) (h1 : c ≤ 100000) (hp : ∃ p, typeF x = some p) (hfit : ∀ y ∈ sigF x, sigE v x y = 0) (hk : 37 ≤ kind ∧ kind ≤ 41) (hf : 0 ≤ f) (hft : f ≤ t) (htf : t ≤ v.fin) :
    Calls Tryz.prog 80 #[srcV M, .agg #[.int .i64 kind, .int .i64 at_, .string name, .string value, .int .i64 a, .int .i64 b, .int .i64 c0, .int .i64 d, .slice KA 1 kc], .int .i64 f, .int .i64 t] w (EcPost v x kind f t M w) := by
  have hM := h.lt
  obtain ⟨W0, hW0⟩ : ∃ W0, w.alloc (.cells #[.int .i64 kind, .int .i64 at_, .string name, .string value, .int .i64 a, .int .i64 b, .int .i64 c0, .int .i64 d, .slice KA 1 kc] 28) = W0 := ⟨_, rfl⟩
  have g0 := new_at hW0
  have hb0 : Below w.heap.size w W0 := by rw [← hW0]; exact (Below.refl _ _).alloc (Nat.le_refl _) _
  have hT := tree_below ht hb0
  obtain ⟨bk, ok, rfl, hbk, hcx⟩ := hT.row.at_ (show 0 < [x].length by simp)
  have hkid := hT.each x (by simp)
  have hs0 := SrcTo.start h hb0
  have hbd : Below W0.heap.size W0 W0.drew := below_drew (Below.refl _ _)
  have hcall := chg_any v c M x kind f t W0.drew (hs0.below hbd).1 hv (tree_below hkid hbd) hok hf60 h0 h1 hp hfit (by unfold I64; omega) hf hft htf
  have HB0 := hide hb0
  have HS0 := hide (hs0.below hbd)
  have HW0 := hide hW0
  have HDS := hide (Nat.le_trans hb0.size hbd.size)
  obtain ⟨y0, y1, y2, y3, y4, y5, y6, y7, y8⟩ := box9 g0
  simp only [List.getElem_cons_zero] at hcx
  obtain ⟨x', hx'⟩ : ∃ x', x' = x := ⟨_, rfl⟩
  have HCH := hide (show Calls Tryz.prog 159 #[srcV M, .int .i64 kind, .agg (cNd x).toArray, .int .i64 f, .int .i64 t] W0.drew (EcPost v x' kind f t M W0.drew) by rw [hx']; exact hcall)
  rw [show EcPost v x kind f t M w = EcPost v x' kind f t M w by rw [hx']]
  clear hx' hcall hW0 g0 hb0 ht hT hkid hs0 hbd h hok hf60 hp hfit
  obtain ⟨m1, m2, m3, m4, m5, m6, m7, m8, mK, mc, ml⟩ := x
  unfold cNd at hcx HCH
  obtain ⟨c0', c1, c2, c3, c4, c5, c6, c7, c8⟩ := nine hcx
  clear hcx
  simp only [Nat.zero_mul, Nat.add_zero] at c0' c1 c2 c3 c4 c5 c6 c7 c8
  have T42 : (kind == 42) = false := beq_eq_false_iff_ne.2 (by omega)
  have T43 : (kind == 43) = false := beq_eq_false_iff_ne.2 (by omega)
  have T44 : (kind == 44) = false := beq_eq_false_iff_ne.2 (by omega)
  clear hk
  unfold srcV at HCH ⊢
  dsimp only at HCH
  go_enter Tryz.func80, Tryz.ntmps80
  go_upto_region 1 with (fail)
  rw [HW0.out]
  go_upto_region 27 with (fail)
  go_region_law
    (first
      | (go_simp
         go_at_call 159
         refine HCH.out.mono ?_
         rintro e w3 ⟨l, B, cb, e1, e2, rfl, e3, c', e4⟩
         have HE1 := hide (show EcPost v x' kind f t M w (.returned (.tuple #[.slice B (chgT kind f l (l.length - 1)).length cb, .int .i64 0])) w3 from ⟨l, B, cb, e1, e2, rfl, e3.lower HDS.out, c', HS0.out.trans e4⟩)
         clear e1 e2 e3 e4)
      | fail)
  all_goals
    go_wp2_with fail
    go_ret2
    exact HE1.out

end Go.Proofs.YtaaplalfggofiaaGreatDoor
