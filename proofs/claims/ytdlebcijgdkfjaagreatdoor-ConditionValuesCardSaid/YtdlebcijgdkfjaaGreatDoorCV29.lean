/-
  Several texts in one: CValue, MonoP, ResW. Each says at its head what it holds.
-/
import Derived.Test.YtdlebcijgdkfjaaGreatDoorCV26
import Derived.Test.YtdlebcijgdkfjaaGreatDoorCV22
import Derived.Test.YtdlebcijgdkfjaaGreatDoorCV11
import Derived.Test.YtdlebcijgdkfjaaGreatDoorCV13
import Derived.Test.YtdlebcijgdkfjaaGreatDoorCV3
import Derived.Test.YtdlebcijgdkfjaaGreatDoorCV4
import Derived.Test.YtdlebcijgdkfjaaGreatDoorCV17
import Derived.Test.YtdlebcijgdkfjaaGreatDoorCV24

/-
  condition.Value: the spans of a value of a source.
-/
namespace Go.Proofs.YtdlebcijgdkfjaaGreatDoor
open Go.RowKit

def VRes (l : Value) (er : Int) : Ending := .returned (.tuple #[l, .int .i64 er])
def ValuePost (v : Wv) (n : Nd) (L c : Int) (M : Nat) (f t : Int) (w : World) (e : Ending) (w' : World) : Prop :=
  (¬ inR v f t ∧ e = VRes (.slice none 0 0) 2 ∧ SrcTo w M v L c w') ∨
  (inR v f t ∧ typeF n = none ∧ e = VRes (.slice none 0 0) 7 ∧ SrcTo w M v L c w') ∨
  (inR v f t ∧ (∃ p, typeF n = some p) ∧ ∃ zs, SigsOf n zs ∧
    ((fitE v n zs ≠ 0 ∧ L < 0 ∧ e = VRes (.slice none 0 0) (fitE v n zs) ∧ ∃ c', SrcTo w M v L c' w') ∨
     (fitE v n zs = 0 ∧ (L < 0 ∨ c + allC v f t zs ≤ L) ∧ SrcTo w M v L (c + allC v f t zs) w' ∧ ∃ (A : Option Addr) (ca : Nat) (l : List Spn), e = VRes (.slice A l.length ca) 0 ∧
       OwnSp w' w.heap.size A ca l ∧ Spans (fun u => valF (envW v u) n) f t l ∧ l.length ≤ 4001) ∨
     (fitE v n zs = 0 ∧ 0 ≤ L ∧ L < c + allC v f t zs ∧ e = VRes (.slice none 0 0) 14 ∧ ∃ c', SrcTo w M v L c' w')))

set_option maxRecDepth 100000 in
set_option maxHeartbeats 4000000 in
/-- the closure that spans calls -/
theorem vcl_any (env : Int → ByteArray) (n : Nd) (p : Int × Int) (hp : typeF n = some p) (Bm q N : Nat) (w : World) (ht : TreesAt w (Lo w.heap.size) n.KA n.kids) (hm : MapS w Bm q env) (hok : okF n) (he : EnvOk env n) (hf : FewOk 60 n) (hN : w.heap[N]? = some (.cells (cNd n).toArray 32 (0, 0))) :
    Calls Tryz.prog 51 #[.map (some Bm), .pointer (some ⟨N, 0, none⟩)] w (RetV (.string (valF env n)) w) := by
  have hcall := cval_of hp w Bm q ht hm hok he hf
  clear hm hok he hf ht hp
  generalize valF env n = v at *
  obtain ⟨m1, m2, m3, m4, m5, m6, m7, m8, mK, mc, ml⟩ := n
  unfold cNd at hcall hN
  dsimp only at hcall hN
  have HC := hide hcall
  obtain ⟨y0, y1, y2, y3, y4, y5, y6, y7, y8⟩ := box9 hN
  clear hcall hN
  go_enter Tryz.func51, Tryz.ntmps51
  go_wp2_with (go_at_call 52; refine HC.out.mono ?_; rintro e w2 ⟨rfl, hb2⟩; have HB2 := hide hb2; clear hb2)
  go_ret
  exact ⟨rfl, HB2.out⟩
theorem enters_V1 : EntersF 51 := fun args w => by
  first | exact run_callFunc_enter _ _ _ | kernel_rfl
theorem row_val {v : Wv} {n : Nd} {zs : List Int} (hz : SigsOf n zs) (hok : okF n) (u : Int) : valF (envL zs ((zs.map (gOf v)).map (· u))) n = valF (envW v u) n :=
  (val_congr n fun x hx => (envL_at v u ((hz.2.2.1 x (sig_I64 n hok x hx)).2 hx)).symm).symm

set_option maxRecDepth 100000 in
set_option maxHeartbeats 8000000 in
theorem value_any2 (v : Wv) (L c : Int) (M : Nat) (n : Nd) (f t : Int) (w : World) (h : SourceAt w M v L c) (hv : SmallOk v) (ht : TreesAt w (Un M w.heap.size) n.KA n.kids) (hok : okF n) (hf60 : FewOk 60 n) (hsz : n.fold (fun m l => m.value.size ≤ 130 ∧ ∀ p ∈ l, p))
    (h0 : 0 ≤ c) (h1 : c ≤ 1000) (hL : L < 0 ∨ c ≤ L) (hfit : 0 ≤ L → inR v f t ∧ (∃ p, typeF n = some p) ∧ ∀ x ∈ sigF n, sigE v n x = 0) :
    Calls Tryz.prog 13 #[srcV M, .agg (cNd n).toArray, .int .i64 f, .int .i64 t] w (ValuePost v n L c M f t w) := by
  have hM := h.lt
  have hgd := fun (hr : ∃ p, typeF n = some p) => Gd.ev (n := n) (.inr hr)
  have HROWS := hide (fun (W : World) (hs : SrcTo w M v L c W) (hi : inR v f t) (hr : ∃ p, typeF n = some p) => rows_any v L c M n f t W hs.1 hv (tree_src ht hs) hok hf60.nodes (hgd hr) h0 h1 hL hi.1 hi.2.1 hi.2.2 (fun h2 zs z1 z2 => fitE_ok.2 fun x hx => (hfit h2).2.2 x ((z2 x (z1 x hx)).1 hx)))
  have HTYP := hide (fun (W : World) (hs : SrcTo w M v L c W) => type_any n W ((tree_src ht hs).more fun _ => un_lo))
  have HWI := hide (fun (W : World) (hs : SrcTo w M v L c W) => within_any v L c M f t W hs.1)
  have HSP := hide (fun (zs : List Int) (hz : SigsOf n zs) (p : Int × Int) (hp : typeF n = some p) (hfe : fitE v n zs = 0) (W : World) (c' : Int) (hs : SrcTo w M v L c' W) (RA ZA : Option Addr) (rc zc : Nat) (rows : List RwM) (hR : RwsAt W (Lo W.heap.size) RA rows) (hZ : IntsAt W W.heap.size ZA zs) (hrl : rows.length ≤ 4001) (hcov : Cov (zs.map (gOf v)) f (t + 1) (rows.map RwM.rw)) (N : Nat) (hN : W.heap[N]? = some (.cells (cNd n).toArray 32 (0, 0))) =>
    spans_any 51 #[.pointer (some ⟨N, 0, none⟩)] enters_V1 (fun vs => valF (envL zs vs) n) RA ZA rc zc rows zs W hR hZ hz.1 hz.2.1 hrl
      (by have := nodup_few v.sigs.length hz.1 (fun x hx => ⟨(sigE_zero (fitE_ok.1 hfe x hx)).1, (sigE_zero (fitE_ok.1 hfe x hx)).2.1⟩); have := hv.len; omega)
      (fun r hr => by
        obtain ⟨k1, k2, k3, k4⟩ := cov_mem hcov (List.mem_map.2 ⟨r, hr, rfl⟩)
        have : r.vs = (zs.map (gOf v)).map (· r.f) := k4 r.f (Int.le_refl _) k2
        rw [this]; simp)
      (fun r hr b hb => by
        obtain ⟨k1, k2, k3, k4⟩ := cov_mem hcov (List.mem_map.2 ⟨r, hr, rfl⟩)
        have h9 : r.vs = (zs.map (gOf v)).map (· r.f) := k4 r.f (Int.le_refl _) k2
        rw [h9] at hb
        exact (row_env hv hz hok hfe hsz r.f).2.2 b hb)
      (fun r hr2 W2 Bm q hb hm => by
        obtain ⟨k1, k2, k3, k4⟩ := cov_mem hcov (List.mem_map.2 ⟨r, hr2, rfl⟩)
        have h9 : r.vs = (zs.map (gOf v)).map (· r.f) := k4 r.f (Int.le_refl _) k2
        have hs2 := hs.below hb
        exact vcl_any (envL zs r.vs) n p hp Bm q N W2 ((tree_src ht hs2).more fun _ => un_lo) hm hok (by rw [h9]; exact (row_env hv hz hok hfe hsz r.f).1) hf60 ((hb.block _ (box_lt hN)).trans hN)))
  have HSPN := hide (fun (zs : List Int) (hz : SigsOf n zs) (rows : List RwM) (hne : rows ≠ []) (hcov : Cov (zs.map (gOf v)) f (t + 1) (rows.map RwM.rw)) => show Spans (fun u => valF (envW v u) n) f t (spL (fun vs => valF (envL zs vs) n) (rows.map RwM.rw)) from by
    have := spL_spans (F := fun vs => valF (envL zs vs) n) hcov (by simpa using hne)
    rw [Int.add_sub_cancel] at this
    exact this.congr fun u _ _ => (row_val hz hok u).symm)
  clear ht hok hf60 hsz hgd hfit
  obtain ⟨rz, hrz⟩ : ∃ rz, typeF n = rz := ⟨_, rfl⟩
  have HRZ := hide hrz
  rw [hrz] at HTYP
  clear hrz
  have HV := hide hv
  obtain ⟨kind, at_, name, value, a, b, c0, d, KA, kc, kids⟩ := n
  unfold cNd at HROWS HTYP HSP ⊢
  dsimp only at HROWS HTYP HSP ⊢
  generalize hnn : Nd.mk kind at_ name value a b c0 d KA kc kids = n at *
  obtain ⟨W0, hW0⟩ : ∃ W0, w.alloc (.cells #[.int .i64 kind, .int .i64 at_, .string name, .string value, .int .i64 a, .int .i64 b, .int .i64 c0, .int .i64 d, .slice KA kids.length kc] 32) = W0 := ⟨_, rfl⟩
  have p0 := new_at hW0
  have hb0 : Below w.heap.size w W0 := by rw [← hW0]; exact (Below.refl _ _).alloc (Nat.le_refl _) _
  have HS0 := hide (SrcTo.start h hb0)
  have HG0 := hide p0
  have HW0 := hide hW0
  have hl0 := box_lt p0
  obtain ⟨y0, y1, y2, y3, y4, y5, y6, y7, y8⟩ := box9 p0
  have HW := hide (HWI.out W0 HS0.out)
  have HR := hide (HTYP.out W0 HS0.out)
  clear hW0 p0 hb0 h hnn hv
  unfold srcV at HROWS HW ⊢
  go_enter Tryz.func13, Tryz.ntmps13
  go_upto_region 1 with (fail)
  rw [HW0.out]
  by_cases hin : inR v f t
  · have hd : (decide (0 ≤ f) && decide (f ≤ t) && decide (t ≤ v.fin)) = true := by rw [decide_eq_true hin.1, decide_eq_true hin.2.1, decide_eq_true hin.2.2]; rfl
    rw [hd] at HW
    have HIN := hide hin
    clear hd hin
    cases rz with
    | none =>
      unfold typV at HR
      dsimp only at HR
      go_wp2_with first
        | (go_at_call 47; refine HW.out.mono ?_; rintro e w2 ⟨rfl, rfl⟩)
        | (go_at_call 48; refine HR.out.mono ?_; rintro e w3 ⟨rfl, hb3⟩; have HS3 := hide (HS0.out.below hb3); clear hb3)
      go_ret2
      exact .inr (.inl ⟨HIN.out, HRZ.out, rfl, HS3.out⟩)
    | some p =>
      obtain ⟨pk, pw⟩ := p
      unfold typV at HR
      dsimp only at HR
      have hR := fun (W : World) (hb : Below W0.heap.size W0 W) => HROWS.out W (HS0.out.below hb) HIN.out ⟨_, HRZ.out⟩
      have HROW := hide hR
      have hchain := fun (W : World) (hb : Below W0.heap.size W0 W) => (hb.block _ hl0).trans HG0.out
      have HCH := hide hchain
      clear hR hchain
      go_upto_region 6 with first
        | (go_at_call 47; refine HW.out.mono ?_; rintro e w2 ⟨rfl, rfl⟩)
        | (go_at_call 48; refine HR.out.mono ?_; rintro e w3 ⟨rfl, hb3⟩)
      have HN3 := hide (HCH.out w3 hb3)
      clear y0 y1 y2 y3 y4 y5 y6 y7 y8
      obtain ⟨y0, y1, y2, y3, y4, y5, y6, y7, y8⟩ := box9 HN3.out
      have HS3 := hide (HS0.out.below hb3)
      have HRW := hide (HROW.out w3 hb3)
      have hz3 := hb3.size
      clear hb3
      go_wp2_with fail
      refine HRW.out.mono ?_
      rintro e w4 ⟨zs, zn, zI, zm, zp, ⟨hfe, hLn, rfl, c9, hs4⟩ | ⟨hfe, hrm, RA, rc, rows, ZA, zc, rfl, hrw, hzi, hcov, hne, hrl, hs4⟩ | ⟨hfe, hLp, hrm, rfl, c9, hs4⟩⟩
      · have HS4 := hide (HS3.out.trans hs4)
        have T1 : (fitE v n zs != 0) = true := by simp [hfe]
        have HFE := hide hfe
        have HZZ := hide (show SigsOf n zs from ⟨zn, zI, zm, zp⟩)
        clear hs4 hfe y0 y1 y2 y3 y4 y5 y6 y7 y8 zn zI zm zp
        go_wp2_with fail
        go_ret2
        exact .inr (.inr ⟨HIN.out, ⟨_, HRZ.out⟩, zs, HZZ.out, .inl ⟨HFE.out, hLn, rfl, c9, HS4.out⟩⟩)
      · have hN4 := (hs4.2.block _ (by omega) (fun e => by injection e with e; omega)).trans HN3.out
        have hS4 := HS3.out.trans hs4
        have hZZ : SigsOf n zs := ⟨zn, zI, zm, zp⟩
        have hspc := HSP.out zs hZZ _ HRZ.out hfe w4 _ hS4 RA ZA rc zc rows ⟨hrw.row.more fun b hb => hb.2, fun r hr => (hrw.each r hr).more fun b hb => hb.2⟩ hzi hrl hcov w.heap.size hN4
        have hspn := HSPN.out zs hZZ rows hne hcov
        have hll := spL_len (fun vs => valF (envL zs vs) n) (rows.map RwM.rw)
        rw [List.length_map] at hll
        generalize spL (fun vs => valF (envL zs vs) n) (rows.map RwM.rw) = l at *
        have hl4 : l.length ≤ 4001 := by omega
        have HSPC := hide hspc
        have HSPN2 := hide hspn
        have HS4 := hide hS4
        have HZZ := hide hZZ
        have HFE := hide hfe
        have T1 : decide ((4096 : Int) < (l.length : Int)) = false := decide_eq_false (by omega)
        have hws4 := hS4.2.size
        clear hs4 hN4 hS4 hZZ hspc hspn hfe hrw hzi hcov hne hll zn zI zm zp y0 y1 y2 y3 y4 y5 y6 y7 y8
        go_wp2_with fail
        refine HSPC.out.mono ?_
        rintro e w5 ⟨A5, c5, rfl, ho5, hb5⟩
        have HO5 := hide (show OwnSp w5 w.heap.size A5 c5 l from Joins.ownsRow_le ho5 hws4)
        have HS5 := hide (HS4.out.below hb5)
        clear ho5 hb5
        go_wp2_with fail
        go_ret2
        exact .inr (.inr ⟨HIN.out, ⟨_, HRZ.out⟩, zs, HZZ.out, .inr (.inl ⟨HFE.out, hrm, HS5.out, A5, c5, l, rfl, HO5.out, HSPN2.out, hl4⟩)⟩)
      · have HS4 := hide (HS3.out.trans hs4)
        have HFE := hide hfe
        have HZZ := hide (show SigsOf n zs from ⟨zn, zI, zm, zp⟩)
        clear hs4 hfe y0 y1 y2 y3 y4 y5 y6 y7 y8 zn zI zm zp
        go_wp2_with fail
        go_ret2
        exact .inr (.inr ⟨HIN.out, ⟨_, HRZ.out⟩, zs, HZZ.out, .inr (.inr ⟨HFE.out, hLp, hrm, rfl, c9, HS4.out⟩)⟩)
  · have hd : (decide (0 ≤ f) && decide (f ≤ t) && decide (t ≤ v.fin)) = false := by
      rw [Bool.eq_false_iff]
      intro h9
      rw [Bool.and_eq_true, Bool.and_eq_true] at h9
      exact hin ⟨of_decide_eq_true h9.1.1, of_decide_eq_true h9.1.2, of_decide_eq_true h9.2⟩
    rw [hd] at HW
    have HIN := hide hin
    clear hd hin
    go_wp2_with (go_at_call 47; refine HW.out.mono ?_; rintro e w2 ⟨rfl, rfl⟩)
    go_ret2
    exact .inl ⟨HIN.out, rfl, HS0.out⟩

end Go.Proofs.YtdlebcijgdkfjaaGreatDoor

/-
  Known results stay when unknown bits of the signals become known: values and conditions without ===, !== and known. Plain.
-/
namespace Go.Proofs.YtdlebcijgdkfjaaGreatDoor
open Go.RowKit

/-- a bit that may know more -/
def R1 (a b : UInt8) : Prop := (knC a = true → b = a) ∧ bitC a = bitC b
inductive R2 : List UInt8 → List UInt8 → Prop
  | nil : R2 [] []
  | cons {a b : UInt8} {l m : List UInt8} : R1 a b → R2 l m → R2 (a :: l) (b :: m)
theorem R1.refl (a : UInt8) : R1 a a := ⟨fun _ => rfl, rfl⟩
theorem R2.refl : ∀ l, R2 l l
  | [] => .nil
  | a :: l => .cons (.refl a) (R2.refl l)
theorem R2.len {l m : List UInt8} (h : R2 l m) : l.length = m.length := by
  induction h with
  | nil => rfl
  | cons _ _ ih => simp [ih]
theorem R2.bits {l m : List UInt8} (h : R2 l m) : bitsB l = bitsB m := by
  have key : l.all bitC = m.all bitC := by
    induction h with
    | nil => rfl
    | cons h _ ih => rw [List.all_cons, List.all_cons, h.2, ih]
  have := h.len
  unfold bitsB
  rw [key]
  congr 1
  cases l <;> cases m <;> simp_all
theorem R2.known {l m : List UInt8} (h : R2 l m) (hk : knownB l = true) : m = l := by
  induction h with
  | nil => rfl
  | cons h _ ih =>
    unfold knownB at hk ih
    rw [List.all_cons, Bool.and_eq_true] at hk
    rw [h.1 hk.1, ih hk.2]
theorem R2.drop {l m : List UInt8} (h : R2 l m) (n : Nat) : R2 (l.drop n) (m.drop n) := by
  induction h generalizing n with
  | nil => simp; exact .nil
  | cons h h2 ih =>
    cases n with
    | zero => exact .cons h h2
    | succ n => exact ih n
theorem R2.take {l m : List UInt8} (h : R2 l m) (n : Nat) : R2 (l.take n) (m.take n) := by
  induction h generalizing n with
  | nil => simp; exact .nil
  | cons h h2 ih =>
    cases n with
    | zero => exact .nil
    | succ n => exact .cons h (ih n)
/-- lists of values that may know more -/
inductive R3 : List (List UInt8) → List (List UInt8) → Prop
  | nil : R3 [] []
  | cons {a b : List UInt8} {l m : List (List UInt8)} : R2 a b → R3 l m → R3 (a :: l) (b :: m)
end Go.Proofs.YtdlebcijgdkfjaaGreatDoor

/-
  wavestorelaw51.resolve, walked: a signal whose unknown bits are replaced.
-/
namespace Go.Proofs.YtdlebcijgdkfjaaGreatDoor
open Go.RowKit

theorem infoChg : (Tryz.prog.info? 97).map (fun i => (i.zero, i.size, i.bytes)) = some (some (.agg #[.int .i64 0, .string ByteArray.empty]), 2, 24) := by kernel_rfl
/-- a list of changes that the call itself has made -/
def OwnCh (w : World) (base : Nat) (A : Option Addr) (c : Nat) (l : List Chg) : Prop := w.ownsRow base 97 2 (.slice A l.length c) l.length (l.flatMap cChg)
theorem OwnCh.nil (w : World) (base : Nat) : OwnCh w base none 0 [] := World.ownsRow_nil w base _ 2
theorem OwnCh.of_row {w : World} {base : Nat} {v : Value} {n : Nat} {vs : List Value} {l : List Chg} (h : w.ownsRow base 97 2 v n vs) (hn : n = l.length) (hv : vs = l.flatMap cChg) : ∃ A c, v = .slice A l.length c ∧ OwnCh w base A c l := by
  subst hn hv
  rcases Joins.ownsRow_forms h with ⟨rfl, h0⟩ | ⟨g, cap, rfl⟩
  · exact ⟨none, 0, by rw [h0], by unfold OwnCh; rw [h0] at h ⊢; exact h⟩
  · exact ⟨_, cap, rfl, h⟩
theorem OwnCh.row {w : World} {base : Nat} {A : Option Addr} {c : Nat} {l : List Chg} (h : OwnCh w base A c l) : Row w (fun b => base ≤ b ∧ b < w.heap.size ∧ ∃ cs, w.heap[b]? = some (.cells cs 97 (0, 0))) 2 cChg A l := fun hne => by
  obtain ⟨g, rfl, h1⟩ := own_place h (List.length_pos_iff.2 hne)
  have h2 := own_ob h g rfl
  refine ⟨g, 0, rfl, ⟨h2.1, h2.2, own_cellsT h rfl⟩, fun i s hi j hj => ?_⟩
  have hlt := (List.getElem?_eq_some_iff.1 hi).1
  rw [Nat.zero_add, World.ownsRow.cellAt h _ (by omega), flat_at cChg 2 (fun _ => rfl) hi hj]
theorem ch_one (c : Chg) : ∀ u ∈ cChg c, u.oneCell' = true := by
  intro u hu
  simp only [cChg, List.mem_cons, List.not_mem_nil, or_false] at hu
  rcases hu with rfl | rfl <;> rfl

end Go.Proofs.YtdlebcijgdkfjaaGreatDoor
