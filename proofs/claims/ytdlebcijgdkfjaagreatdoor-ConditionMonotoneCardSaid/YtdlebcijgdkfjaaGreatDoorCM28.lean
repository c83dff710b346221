/-
  Several texts in one: CTruth, New47, CTruthN, TruCut, WoW. Each says at its head what it holds.
-/
import Derived.Test.YtdlebcijgdkfjaaGreatDoorCM23
import Derived.Test.YtdlebcijgdkfjaaGreatDoorCM27
import Derived.Test.YtdlebcijgdkfjaaGreatDoorCM22
import Derived.Test.YtdlebcijgdkfjaaGreatDoorCM26
import Derived.Deep.RegionHeld3
import Derived.Test.YtdlebcijgdkfjaaGreatDoorCM7

/-
  condition.Truth: the sets of times of a condition of a source.
-/
namespace Go.Proofs.YtdlebcijgdkfjaaGreatDoor
open Go.RowKit

def zTr : Value := .agg #[.slice none 0 0, .slice none 0 0]
/-- the times at which a condition of a wave is u -/
def setW (v : Wv) (n : Nd) (f t : Int) (u : ByteArray) (x : Int) : Prop := f ≤ x ∧ x ≤ t ∧ truF (envW v x) n = u
def inR (v : Wv) (f t : Int) : Prop := 0 ≤ f ∧ f ≤ t ∧ t ≤ v.fin
/-- the signals of a tree, each once, in order -/
def SigsOf (n : Nd) (zs : List Int) : Prop := zs.Nodup ∧ (∀ x ∈ zs, I64 x) ∧ (∀ x, I64 x → (x ∈ zs ↔ x ∈ sigF n)) ∧ zs.Pairwise (· ≤ ·)
def TruthPost (v : Wv) (n : Nd) (L c : Int) (M : Nat) (f t : Int) (w : World) (e : Ending) (w' : World) : Prop :=
  (¬ inR v f t ∧ e = .returned (.tuple #[zTr, .int .i64 2]) ∧ SrcTo w M v L c w') ∨
  (inR v f t ∧ resF n = false ∧ e = .returned (.tuple #[zTr, .int .i64 7]) ∧ SrcTo w M v L c w') ∨
  (inR v f t ∧ resF n = true ∧ ∃ zs, SigsOf n zs ∧
    ((fitE v n zs ≠ 0 ∧ L < 0 ∧ e = .returned (.tuple #[zTr, .int .i64 (fitE v n zs)]) ∧ ∃ c', SrcTo w M v L c' w') ∨
     (fitE v n zs = 0 ∧ (L < 0 ∨ c + allC v f t zs ≤ L) ∧ SrcTo w M v L (c + allC v f t zs) w' ∧ ∃ (A : Option Addr) (ca : Nat) (xs : List Iv) (B : Option Addr) (cb : Nat) (ys : List Iv), e = .returned (.tuple #[.agg #[.slice A xs.length ca, .slice B ys.length cb], .int .i64 0]) ∧
       OwnIv w' w.heap.size A ca xs ∧ OwnIv w' w.heap.size B cb ys ∧ Norm xs ∧ Norm ys ∧ (∀ x, Mem xs x ↔ setW v n f t ⟨#[49]⟩ x) ∧ ∀ x, Mem ys x ↔ setW v n f t ⟨#[48]⟩ x) ∨
     (fitE v n zs = 0 ∧ 0 ≤ L ∧ L < c + allC v f t zs ∧ e = .returned (.tuple #[zTr, .int .i64 14]) ∧ ∃ c', SrcTo w M v L c' w')))
/-- no event among the signals of a resolved tree -/
theorem agr_sig {x k d : Int} : ∀ n : Nd, agrF x k d n = true → x ∈ sigF n → ∃ m : Nd, m.kind = 1 ∧ m.c = k ∧ ∀ p : Nd → Prop, (∀ q : Nd, p q → ∀ r ∈ q.kids, p r) → p n → p m := by
  intro n
  induction n using Nd.ind with
  | h n ih =>
  intro ha hx
  rw [sigF_eq] at hx
  unfold sigB at hx
  rcases List.mem_append.1 hx with hx | hx
  · by_cases k1 : n.kind = 1
    · rw [if_pos k1] at hx
      simp at hx
      subst hx
      exact ⟨n, k1, (agr_here ha k1).1, fun p _ h => h⟩
    · rw [if_neg k1] at hx; cases hx
  · obtain ⟨l, hl, hx⟩ := List.mem_flatten.1 hx
    obtain ⟨m, hm, rfl⟩ := List.mem_map.1 hl
    obtain ⟨q, q1, q2, q3⟩ := ih m hm (agr_kid ha hm) hx
    exact ⟨q, q1, q2, fun p hp h => q3 p hp (hp n h m hm)⟩
/-- what the signals' nodes of a good tree are -/
def Gd (n : Nd) : Prop := resF n = true ∨ (∃ p, typeF n = some p) 
theorem Gd.kids {n : Nd} (h : Gd n) : ∀ k ∈ n.kids, Gd k := by
  intro k hk
  have typed : ∀ p, typeF n = some p → ∃ q, typeF k = some q := fun p hp => by
    rw [typeF_eq] at hp
    unfold typeB at hp
    have hne : n.kids ≠ [] := fun e => by rw [e] at hk; cases hk
    split at hp
    · first | cases hp | (rw [if_pos hne] at hp; cases hp)
    · split at hp
      · first | cases hp | (rw [if_pos hne] at hp; cases hp)
      · split at hp
        · first | cases hp | (rw [if_pos hne] at hp; cases hp)
        · split at hp
          · first | cases hp | (rw [if_pos hne] at hp; cases hp)
          · split at hp
            · rename_i ws hws
              obtain ⟨hl, hat⟩ := widthsF_at hws
              obtain ⟨i, hi⟩ := List.getElem?_of_mem hk
              have hlt : i < ws.length := by rw [hl, List.length_map]; exact (List.getElem?_eq_some_iff.1 hi).1
              have := hat i ws[i] (List.getElem?_eq_getElem hlt)
              rw [List.getElem?_map, hi] at this
              exact ⟨_, by injection this⟩
            · cases hp
  rcases h with h | ⟨p, hp⟩
  · rw [resF_eq] at h
    unfold resB at h
    split at h
    · have : n.kids = [] := by simpa using h
      rw [this] at hk
      cases hk
    · split at h
      · rw [Bool.and_eq_true] at h
        cases ht : typedK n.kids with
        | none => rw [ht] at h; cases h.2
        | some q =>
          obtain ⟨u, hu⟩ := typedK_some ht
          exact .inr ⟨_, hu k hk⟩
      · split at h
        · rw [Bool.and_eq_true] at h
          cases ht : typedK n.kids with
          | none => rw [ht] at h; cases h.2
          | some q =>
            obtain ⟨u, hu⟩ := typedK_some ht
            exact .inr ⟨_, hu k hk⟩
        · split at h
          · match hkk : n.kids, h, hk with
            | [x], h, hk => simp at hk; subst hk; exact .inl h
          · split at h
            · match hkk : n.kids, h, hk with
              | [x, y], h, hk =>
                have h : (resF x && resF y) = true := h
                rw [Bool.and_eq_true] at h
                simp at hk
                rcases hk with rfl | rfl
                · exact .inl h.1
                · exact .inl h.2
            · exact .inr (typed _ (of_decide_eq_true h))
  · exact .inr (typed p hp)
theorem Gd.sig {m : Nd} (h : Gd m) (hk : m.kind = 1) : m.c ≠ 3 := by
  have typed : ∀ p, typeF m = some p → m.c ≠ 3 := fun p hp e => by
    rw [typeF_eq] at hp
    unfold typeB at hp
    rw [if_pos hk] at hp
    split at hp
    · cases hp
    · split at hp
      · omega
      · split at hp
        · omega
        · cases hp
  rcases h with h | ⟨p, hp⟩
  · rw [resF_eq] at h
    unfold resB at h
    rw [if_neg (by omega), if_neg (by omega), if_neg (by omega), if_neg (by omega), if_neg (by omega)] at h
    exact typed _ (of_decide_eq_true h)
  · exact typed p hp
theorem Gd.ev {n : Nd} (h : Gd n) : ∀ x ∈ sigF n, ∀ k d, agrF x k d n = true → k ≠ 3 := fun x hx k d ha => by
  obtain ⟨m, m1, m2, m3⟩ := agr_sig n ha hx
  rw [← m2]
  exact (m3 Gd (fun q hq => hq.kids) h).sig m1

set_option maxRecDepth 100000 in
set_option maxHeartbeats 4000000 in
/-- the closure that spans calls -/
theorem tcl_any (env : Int → ByteArray) (n : Nd) (Bm q N : Nat) (w : World) (ht : TreesAt w (Lo w.heap.size) n.KA n.kids) (hm : MapS w Bm q env) (htab : Tab w) (hok : okF n) (he : EnvOk env n) (hf : FewOk 60 n) (hr : resF n = true) (hN : w.heap[N]? = some (.cells (cNd n).toArray 32 (0, 0))) :
    Calls Tryz.prog 61 #[.map (some Bm), .pointer (some ⟨N, 0, none⟩)] w (RetV (.string (truF env n)) w) := by
  have hcall := ctruth_any env n w Bm q ht hm htab hok he hf hr
  clear hm htab hok he hf hr ht
  generalize truF env n = v at *
  obtain ⟨m1, m2, m3, m4, m5, m6, m7, m8, mK, mc, ml⟩ := n
  unfold cNd at hcall hN
  dsimp only at hcall hN
  have HC := hide hcall
  obtain ⟨y0, y1, y2, y3, y4, y5, y6, y7, y8⟩ := box9 hN
  clear hcall hN
  go_enter Tryz.func61, Tryz.ntmps61
  go_wp2_with (go_at_call 62; refine HC.out.mono ?_; rintro e w2 ⟨rfl, hb2⟩; have HB2 := hide hb2; clear hb2)
  go_ret
  exact ⟨rfl, HB2.out⟩
theorem enters_T1 : EntersF 61 := fun args w => by
  first | exact run_callFunc_enter _ _ _ | kernel_rfl
theorem cov_mem {gs : List (Int → ByteArray)} : ∀ {a b : Int} {rs : List Rw} {r : Rw}, Cov gs a b rs → r ∈ rs → a ≤ r.f ∧ r.f ≤ r.t ∧ r.t < b ∧ ∀ u, r.f ≤ u → u ≤ r.t → r.vs = gs.map (· u)
  | a, b, x :: rs, r, h, hr => by
    obtain ⟨h1, h2, h3, h4⟩ := h
    have hle := h4.le
    rcases List.mem_cons.1 hr with rfl | hr
    · exact ⟨by omega, by omega, by omega, fun u u1 u2 => h3 u (by omega) u2⟩
    · obtain ⟨k1, k2, k3, k4⟩ := cov_mem h4 hr
      exact ⟨by omega, k2, k3, k4⟩
theorem env_congr {env env' : Int → ByteArray} (n : Nd) : (∀ x ∈ sigF n, env x = env' x) → EnvOk env n → EnvOk env' n := by
  induction n using Nd.ind with
  | h n ih =>
  intro h he
  obtain ⟨h1, h2, h3⟩ := (EnvOk_eq env n).1 he
  refine (EnvOk_eq env' n).2 ⟨fun k1 => ?_, h2, fun k hk => ih k hk (fun x hx => h x (sig_kid hk hx)) (h3 k hk)⟩
  rw [← h n.a (by rw [sigF_eq]; unfold sigB; simp [k1])]
  exact h1 k1
theorem sig_I64 (n : Nd) : okF n → ∀ x ∈ sigF n, I64 x := by
  induction n using Nd.ind with
  | h n ih =>
  intro hok x hx
  obtain ⟨h1, h2⟩ := (okF_eq n).1 hok
  rw [sigF_eq] at hx
  unfold sigB at hx
  rcases List.mem_append.1 hx with hx | hx
  · by_cases k1 : n.kind = 1
    · rw [if_pos k1] at hx
      simp at hx
      subst hx
      exact h1.2.1
    · rw [if_neg k1] at hx; cases hx
  · obtain ⟨l, hl, hx⟩ := List.mem_flatten.1 hx
    obtain ⟨m, hm, rfl⟩ := List.mem_map.1 hl
    exact ih m hm (h2 m hm) x hx
/-- the values of a row -/
theorem row_env {v : Wv} (hv : SmallOk v) {n : Nd} {zs : List Int} (hz : SigsOf n zs) (hok : okF n) (hfit : fitE v n zs = 0) (hsz : n.fold (fun m l => m.value.size ≤ 130 ∧ ∀ p ∈ l, p)) (u : Int) :
    EnvOk (envL zs ((zs.map (gOf v)).map (· u))) n ∧ truF (envL zs ((zs.map (gOf v)).map (· u))) n = truF (envW v u) n ∧ ∀ b ∈ (zs.map (gOf v)).map (· u), b.size ≤ 130 := by
  have hin : ∀ x ∈ sigF n, x ∈ zs := fun x hx => (hz.2.2.1 x (sig_I64 n hok x hx)).2 hx
  have hsg := fitE_ok.1 hfit
  have heq : ∀ x ∈ sigF n, envW v u x = envL zs ((zs.map (gOf v)).map (· u)) x := fun x hx => (envL_at v u (hin x hx)).symm
  refine ⟨env_congr n heq (env_ok_of hv u n (fun x hx => sigE_zero (hsg x (hin x hx))) hsz), (tru_congr n heq).symm, fun b hb => ?_⟩
  rw [List.map_map] at hb
  obtain ⟨x, hx, rfl⟩ := List.mem_map.1 hb
  obtain ⟨k1, k2, _⟩ := sigE_zero (hsg x hx)
  have := (valS_ok (hv.each _ (sgn_mem k1 k2).2) u).2
  show (valS (sgnAt v x) u).size ≤ 130
  omega

/-- the result's box, written -/
theorem endZ {w W W9 : World} {M N : Nat} {v : Wv} {L c : Int} (h : SrcTo w M v L c W) (hM : M < w.heap.size) (hN : w.heap.size ≤ N) {a b : Value} (hb : W.heap[N]? = some (.cells #[a, b] 45 (0, 0))) {x y : Value} (hW : (W.setCell ⟨N, 0, none⟩ x).setCell ⟨N, 1, none⟩ y = W9) :
    W9.cell? ⟨N, 0, none⟩ = some x ∧ W9.cell? ⟨N, 1, none⟩ = some y ∧ SrcTo w M v L c W9 := by
  subst hW
  have g := box2_set (u := x) (v := y) hb
  exact ⟨(boxT2 g).1, (boxT2 g).2, h.set (Nat.le_refl _) hM (((Below.refl _ _).setCell (p := ⟨N, 0, none⟩) hN _).setCell (p := ⟨N, 1, none⟩) hN _)⟩

set_option maxRecDepth 100000 in
set_option maxHeartbeats 8000000 in
theorem truth_any (v : Wv) (L c : Int) (M : Nat) (n : Nd) (f t : Int) (w : World) (h : SourceAt w M v L c) (hv : SmallOk v) (ht : TreesAt w (Un M w.heap.size) n.KA n.kids) (hok : okF n) (hf60 : FewOk 60 n) (hsz : n.fold (fun m l => m.value.size ≤ 130 ∧ ∀ p ∈ l, p)) (htab : Tab w)
    (h0 : 0 ≤ c) (h1 : c ≤ 1000) (hL : L < 0 ∨ c ≤ L) (hfit : 0 ≤ L → inR v f t ∧ resF n = true ∧ ∀ x ∈ sigF n, sigE v n x = 0) :
    Calls Tryz.prog 17 #[srcV M, .agg (cNd n).toArray, .int .i64 f, .int .i64 t] w (TruthPost v n L c M f t w) := by
  have hM := h.lt
  have hgd := fun (hr : resF n = true) => Gd.ev (n := n) (.inl hr)
  have HROWS := hide (fun (W : World) (hs : SrcTo w M v L c W) (hi : inR v f t) (hr : resF n = true) => rows_any v L c M n f t W hs.1 hv (tree_src ht hs) hok hf60.nodes (hgd hr) h0 h1 hL hi.1 hi.2.1 hi.2.2 (fun h2 zs z1 z2 => fitE_ok.2 fun x hx => (hfit h2).2.2 x ((z2 x (z1 x hx)).1 hx)))
  have HRES := hide (fun (W : World) (hs : SrcTo w M v L c W) => resolved_any n W ((tree_src ht hs).more fun _ => un_lo))
  have HWI := hide (fun (W : World) (hs : SrcTo w M v L c W) => within_any v L c M f t W hs.1)
  have HSP := hide (fun (zs : List Int) (hz : SigsOf n zs) (hr : resF n = true) (hfe : fitE v n zs = 0) (W : World) (c' : Int) (hs : SrcTo w M v L c' W) (RA ZA : Option Addr) (rc zc : Nat) (rows : List RwM) (hR : RwsAt W (Lo W.heap.size) RA rows) (hZ : IntsAt W W.heap.size ZA zs) (hrl : rows.length ≤ 4001) (hcov : Cov (zs.map (gOf v)) f (t + 1) (rows.map RwM.rw)) (N : Nat) (hN : W.heap[N]? = some (.cells (cNd n).toArray 32 (0, 0))) =>
    spans_any 61 #[.pointer (some ⟨N, 0, none⟩)] enters_T1 (fun vs => truF (envL zs vs) n) RA ZA rc zc rows zs W hR hZ hz.1 hz.2.1 hrl
      (by have := nodup_few v.sigs.length hz.1 (fun x hx => ⟨(sigE_zero (fitE_ok.1 hfe x hx)).1, (sigE_zero (fitE_ok.1 hfe x hx)).2.1⟩); have := hv.len; omega)
      (fun r hr => by
        obtain ⟨k1, k2, k3, k4⟩ := cov_mem hcov (List.mem_map.2 ⟨r, hr, rfl⟩)
        have : r.vs = (zs.map (gOf v)).map (· r.f) := k4 r.f (Int.le_refl _) k2
        rw [this]; simp)
      (fun r hr b hb => by
        obtain ⟨k1, k2, k3, k4⟩ := cov_mem hcov (List.mem_map.2 ⟨r, hr, rfl⟩)
        have h9 : r.vs = (zs.map (gOf v)).map (· r.f) := k4 r.f (Int.le_refl _) k2
        rw [h9] at hb
        exact (row_env hv hz hok hfe hsz r.f).2.2 b hb)
      (fun r hr2 W2 Bm q hb hm => by
        obtain ⟨k1, k2, k3, k4⟩ := cov_mem hcov (List.mem_map.2 ⟨r, hr2, rfl⟩)
        have h9 : r.vs = (zs.map (gOf v)).map (· r.f) := k4 r.f (Int.le_refl _) k2
        have hs2 := hs.below hb
        exact tcl_any (envL zs r.vs) n Bm q N W2 ((tree_src ht hs2).more fun _ => un_lo) hm (htab.src h hs2.2) hok (by rw [h9]; exact (row_env hv hz hok hfe hsz r.f).1) hf60 hr ((hb.block _ (box_lt hN)).trans hN)))
  have HSPN := hide (fun (zs : List Int) (hz : SigsOf n zs) (hfe : fitE v n zs = 0) (rows : List RwM) (hne : rows ≠ []) (hcov : Cov (zs.map (gOf v)) f (t + 1) (rows.map RwM.rw)) => show Spans (fun u => truF (envW v u) n) f t (spL (fun vs => truF (envL zs vs) n) (rows.map RwM.rw)) from by
    have := spL_spans (F := fun vs => truF (envL zs vs) n) hcov (by simpa using hne)
    rw [Int.add_sub_cancel] at this
    exact this.congr fun u _ _ => ((row_env hv hz hok hfe hsz u).2.1).symm)
  have HM1 := hide (fun (xs ys : List Iv) (l : List Spn) (g : Int → ByteArray) (hs : Spans g f t l) (nx : Norm xs) (ny : Norm ys) (mx : ∀ x, Mem xs x ↔ f ≤ x ∧ x ≤ t ∧ g x = ⟨#[49]⟩) (my : ∀ x, Mem ys x ↔ f ≤ x ∧ x ≤ t ∧ g x = ⟨#[48]⟩) (hl : l.length ≤ 4001) => show xs.length + ys.length ≤ 4001 from by
    have h1 := norm_count nx mx hs
    have h2 := norm_count ny my hs
    have h3 := two_filters l
    omega)
  have hsub := h
  clear ht hok hf60 hsz htab hgd hfit hsub
  obtain ⟨rz, hrz⟩ : ∃ rz, resF n = rz := ⟨_, rfl⟩
  have HRZ := hide hrz
  rw [hrz] at HRES
  clear hrz
  have HV := hide hv
  obtain ⟨kind, at_, name, value, a, b, c0, d, KA, kc, kids⟩ := n
  unfold cNd at HROWS HRES HSP ⊢
  dsimp only at HROWS HRES HSP ⊢
  generalize hnn : Nd.mk kind at_ name value a b c0 d KA kc kids = n at *
  obtain ⟨W0, hW0⟩ : ∃ W0, (w.alloc (.cells #[.int .i64 kind, .int .i64 at_, .string name, .string value, .int .i64 a, .int .i64 b, .int .i64 c0, .int .i64 d, .slice KA kids.length kc] 32)).alloc (.cells #[.slice none 0 0, .slice none 0 0] 45) = W0 := ⟨_, rfl⟩
  obtain ⟨p0, p1, hb0⟩ := chain2 _ _ _ hW0
  have HS0 := hide (SrcTo.start h hb0)
  have HG0 := hide p0
  have HG1 := hide p1
  have HW0 := hide hW0
  have hl0 := box_lt p0
  have hl1 := box_lt p1
  obtain ⟨y0, y1, y2, y3, y4, y5, y6, y7, y8⟩ := box9 p0
  have z0 := (boxT2 p1).1
  have z1 := (boxT2 p1).2
  have z2 := (box2_frozen p1).1
  have z3 := (box2_frozen p1).2
  have HW := hide (HWI.out W0 HS0.out)
  have HR := hide (HRES.out W0 HS0.out)
  clear hW0 p0 p1 hb0 h hnn hv
  unfold srcV at HROWS HW ⊢
  go_enter Tryz.func17, Tryz.ntmps17
  go_upto_region 1 with (fail)
  rw [HW0.out]
  by_cases hin : inR v f t
  · have hd : (decide (0 ≤ f) && decide (f ≤ t) && decide (t ≤ v.fin)) = true := by rw [decide_eq_true hin.1, decide_eq_true hin.2.1, decide_eq_true hin.2.2]; rfl
    rw [hd] at HW
    have HIN := hide hin
    clear hd hin
    cases rz with
    | false =>
      go_upto_region 4 with first
        | (go_at_call 47; refine HW.out.mono ?_; rintro e w2 ⟨rfl, rfl⟩)
        | (go_at_call 59; refine HR.out.mono ?_; rintro e w3 ⟨rfl, hb3⟩)
      have g3 := (hb3.block _ hl1).trans HG1.out
      have HS3 := hide (HS0.out.below hb3)
      have q0 := (boxT2 g3).1
      have q1 := (boxT2 g3).2
      have q2 := (box2_frozen g3).1
      have q3 := (box2_frozen g3).2
      have q4 := box_lt g3
      clear hb3 y0 y1 y2 y3 y4 y5 y6 y7 y8 z0 z1 z2 z3
      go_wp2_with fail
      obtain ⟨W9, hW9⟩ : ∃ W9, (w3.setCell ⟨w.heap.size + 1, 0, none⟩ (.slice none 0 0)).setCell ⟨w.heap.size + 1, 1, none⟩ (.slice none 0 0) = W9 := ⟨_, rfl⟩
      obtain ⟨e0, e1, e2⟩ := endZ HS3.out hM (by omega) g3 hW9
      rw [hW9]
      exact bodyPost_ret (v := .tuple #[zTr, .int .i64 7]) (by simp [results, Tryz.results17, go_sem, e0, e1, zTr]) rfl (.inr (.inl ⟨HIN.out, HRZ.out, rfl, e2⟩))
    | true =>
      have hR := fun (W : World) (hb : Below W0.heap.size W0 W) => HROWS.out W (HS0.out.below hb) HIN.out HRZ.out
      have HROW := hide hR
      have hchain := fun (W : World) (hb : Below W0.heap.size W0 W) => (hb.block _ hl0).trans HG0.out
      have HCH := hide hchain
      clear hR hchain
      go_upto_region 5 with first
        | (go_at_call 47; refine HW.out.mono ?_; rintro e w2 ⟨rfl, rfl⟩)
        | (go_at_call 59; refine HR.out.mono ?_; rintro e w3 ⟨rfl, hb3⟩)
      have g3 := (hb3.block _ hl1).trans HG1.out
      have HN3 := hide (HCH.out w3 hb3)
      clear y0 y1 y2 y3 y4 y5 y6 y7 y8 z0 z1 z2 z3
      obtain ⟨y0, y1, y2, y3, y4, y5, y6, y7, y8⟩ := box9 HN3.out
      have HS3 := hide (HS0.out.below hb3)
      have HRW := hide (HROW.out w3 hb3)
      have HG3 := hide g3
      have hz3 := hb3.size
      clear hb3 g3
      go_wp2_with fail
      refine HRW.out.mono ?_
      rintro e w4 ⟨zs, zn, zI, zm, zp, ⟨hfe, hLn, rfl, c9, hs4⟩ | ⟨hfe, hrm, RA, rc, rows, ZA, zc, rfl, hrw, hzi, hcov, hne, hrl, hs4⟩ | ⟨hfe, hLp, hrm, rfl, c9, hs4⟩⟩
      · have g4 := (hs4.2.block _ (by omega) (fun e => by injection e with e; omega)).trans HG3.out
        have HS4 := hide (HS3.out.trans hs4)
        have q0 := (boxT2 g4).1
        have q1 := (boxT2 g4).2
        have q2 := (box2_frozen g4).1
        have q3 := (box2_frozen g4).2
        have q4 := box_lt g4
        have T1 : (fitE v n zs != 0) = true := by simp [hfe]
        have HFE := hide hfe
        clear hs4 hfe y0 y1 y2 y3 y4 y5 y6 y7 y8
        go_wp2_with fail
        obtain ⟨W9, hW9⟩ : ∃ W9, (w4.setCell ⟨w.heap.size + 1, 0, none⟩ (.slice none 0 0)).setCell ⟨w.heap.size + 1, 1, none⟩ (.slice none 0 0) = W9 := ⟨_, rfl⟩
        obtain ⟨e0, e1, e2⟩ := endZ HS4.out hM (by omega) g4 hW9
        rw [hW9]
        exact bodyPost_ret (v := .tuple #[zTr, .int .i64 (fitE v n zs)]) (by simp [results, Tryz.results17, go_sem, e0, e1, zTr]) rfl (.inr (.inr ⟨HIN.out, HRZ.out, zs, ⟨zn, zI, zm, zp⟩, .inl ⟨HFE.out, hLn, rfl, c9, e2⟩⟩))
      · have g4 := (hs4.2.block _ (by omega) (fun e => by injection e with e; omega)).trans HG3.out
        have hN4 := (hs4.2.block _ (by omega) (fun e => by injection e with e; omega)).trans HN3.out
        have hS4 := HS3.out.trans hs4
        have hZZ : SigsOf n zs := ⟨zn, zI, zm, zp⟩
        have hspc := HSP.out zs hZZ HRZ.out hfe w4 _ hS4 RA ZA rc zc rows ⟨hrw.row.more fun b hb => hb.2, fun r hr => (hrw.each r hr).more fun b hb => hb.2⟩ hzi hrl hcov w.heap.size hN4
        have hspn := HSPN.out zs hZZ hfe rows hne hcov
        have hll := spL_len (fun vs => truF (envL zs vs) n) (rows.map RwM.rw)
        rw [List.length_map] at hll
        generalize spL (fun vs => truF (envL zs vs) n) (rows.map RwM.rw) = l at *
        have hl4 : l.length ≤ 4001 := by omega
        have HSPC := hide hspc
        have HSPN2 := hide hspn
        have HS4 := hide hS4
        have HG4 := hide g4
        have HZZ := hide hZZ
        have HFE := hide hfe
        have hws4 := hS4.2.size
        have hz4 := box_lt g4
        clear hs4 g4 hN4 hS4 hZZ hspc hspn hfe hrw hzi hcov hne hll zn zI zm zp y0 y1 y2 y3 y4 y5 y6 y7 y8
        go_wp2_with fail
        refine HSPC.out.mono ?_
        rintro e w5 ⟨A5, c5, rfl, ho5, hb5⟩
        have HOF := hide (cof_any (fun u => truF (envW v u) n) f t A5 c5 l w5 (ho5.row.more fun b hb => hb.2.1) HSPN2.out HIN.out.1 (by have := HV.out.fin.2; have := HIN.out.2.2; omega) (by omega))
        have hz5 := hb5.size
        have HB5 := hide hb5
        clear ho5 hb5
        go_wp2_with fail
        refine HOF.out.mono ?_
        rintro e w6 ⟨A6, c6, xs, B6, d6, ys, rfl, ox, oy, hb6, nx, ny, mx, my⟩
        have hsum := HM1.out xs ys l _ HSPN2.out nx ny mx my hl4
        have HB6 := hide (HB5.out.trans (hb6.mono hz5))
        have HS6 := hide (HS4.out.below HB6.out)
        have g6 := (HB6.out.block _ hz4).trans HG4.out
        obtain ⟨W7, hW7⟩ : ∃ W7, w6.alloc (.cells #[.slice A6 xs.length c6, .slice B6 ys.length d6] 45) = W7 := ⟨_, rfl⟩
        have g7 : W7.heap[w6.heap.size]? = some (.cells #[.slice A6 xs.length c6, .slice B6 ys.length d6] 45 (0, 0)) := by rw [← hW7]; exact heap_alloc_new w6 _
        have hb7 : Below w6.heap.size w6 W7 := by rw [← hW7]; exact (Below.refl _ _).alloc (Nat.le_refl _) _
        have hz6 := HB6.out.size
        have HG7 := hide ((hb7.block _ (box_lt g6)).trans g6)
        have HS7 := hide (HS6.out.below hb7)
        have HOX := hide (show OwnIv W7 w.heap.size A6 c6 xs from (ox.lower (by omega)).below hb7 (Nat.le_refl _))
        have HOY := hide (show OwnIv W7 w.heap.size B6 d6 ys from (oy.lower (by omega)).below hb7 (Nat.le_refl _))
        have HN := hide (And.intro nx ny)
        have HMX := hide mx
        have HMY := hide my
        have HW7 := hide hW7
        have HGN := hide g7
        have T1 : decide ((4096 : Int) < (xs.length : Int) + (ys.length : Int)) = false := decide_eq_false (by omega)
        clear ox oy nx ny mx my hW7 g7 hb7 g6 hb6
        go_upto_region 9 with (fail)
        rw [HW7.out]
        have q0 := (boxT2 HGN.out).1
        have q1 := (boxT2 HGN.out).2
        have z0 := (boxT2 HG7.out).1
        have z1 := (boxT2 HG7.out).2
        have z2 := (box2_frozen HG7.out).1
        have z3 := (box2_frozen HG7.out).2
        have z4 := box_lt HG7.out
        have z5 := box_lt HGN.out
        go_wp2_with fail
        obtain ⟨W9, hW9⟩ : ∃ W9, (W7.setCell ⟨w.heap.size + 1, 0, none⟩ (.slice A6 xs.length c6)).setCell ⟨w.heap.size + 1, 1, none⟩ (.slice B6 ys.length d6) = W9 := ⟨_, rfl⟩
        obtain ⟨e0, e1, e2⟩ := endZ HS7.out hM (by omega) HG7.out hW9
        rw [hW9]
        have e3 : OwnIv W9 w.heap.size A6 c6 xs := by rw [← hW9]; exact set2_own HG7.out HOX.out
        have e4 : OwnIv W9 w.heap.size B6 d6 ys := by rw [← hW9]; exact set2_own HG7.out HOY.out
        exact bodyPost_ret (v := .tuple #[.agg #[.slice A6 xs.length c6, .slice B6 ys.length d6], .int .i64 0]) (by simp [results, Tryz.results17, go_sem, e0, e1]) rfl
          (.inr (.inr ⟨HIN.out, HRZ.out, zs, HZZ.out, .inr (.inl ⟨HFE.out, hrm, e2, A6, c6, xs, B6, d6, ys, rfl, e3, e4, HN.out.1, HN.out.2, HMX.out, HMY.out⟩)⟩))
      · have g4 := (hs4.2.block _ (by omega) (fun e => by injection e with e; omega)).trans HG3.out
        have HS4 := hide (HS3.out.trans hs4)
        have q0 := (boxT2 g4).1
        have q1 := (boxT2 g4).2
        have q2 := (box2_frozen g4).1
        have q3 := (box2_frozen g4).2
        have q4 := box_lt g4
        have HFE := hide hfe
        clear hs4 hfe y0 y1 y2 y3 y4 y5 y6 y7 y8
        go_wp2_with fail
        obtain ⟨W9, hW9⟩ : ∃ W9, (w4.setCell ⟨w.heap.size + 1, 0, none⟩ (.slice none 0 0)).setCell ⟨w.heap.size + 1, 1, none⟩ (.slice none 0 0) = W9 := ⟨_, rfl⟩
        obtain ⟨e0, e1, e2⟩ := endZ HS4.out hM (by omega) g4 hW9
        rw [hW9]
        exact bodyPost_ret (v := .tuple #[zTr, .int .i64 14]) (by simp [results, Tryz.results17, go_sem, e0, e1, zTr]) rfl (.inr (.inr ⟨HIN.out, HRZ.out, zs, ⟨zn, zI, zm, zp⟩, .inr (.inr ⟨HFE.out, hLp, hrm, rfl, c9, e2⟩)⟩))
  · have hd : (decide (0 ≤ f) && decide (f ≤ t) && decide (t ≤ v.fin)) = false := by
      rw [Bool.eq_false_iff]
      intro h9
      rw [Bool.and_eq_true, Bool.and_eq_true] at h9
      exact hin ⟨of_decide_eq_true h9.1.1, of_decide_eq_true h9.1.2, of_decide_eq_true h9.2⟩
    rw [hd] at HW
    have HIN := hide hin
    clear hd hin
    go_wp2_with (go_at_call 47; refine HW.out.mono ?_; rintro e w2 ⟨rfl, rfl⟩)
    obtain ⟨W9, hW9⟩ : ∃ W9, (W0.setCell ⟨w.heap.size + 1, 0, none⟩ (.slice none 0 0)).setCell ⟨w.heap.size + 1, 1, none⟩ (.slice none 0 0) = W9 := ⟨_, rfl⟩
    obtain ⟨e0, e1, e2⟩ := endZ HS0.out hM (by omega) HG1.out hW9
    rw [hW9]
    exact bodyPost_ret (v := .tuple #[zTr, .int .i64 2]) (by simp [results, Tryz.results17, go_sem, e0, e1, zTr]) rfl (.inl ⟨HIN.out, rfl, e2⟩)

end Go.Proofs.YtdlebcijgdkfjaaGreatDoor

/-
  wavestorelaw47.New: a source of a wave.
-/
namespace Go.Proofs.YtdlebcijgdkfjaaGreatDoor
open Go.RowKit

set_option maxRecDepth 100000 in
theorem new_any (v : Wv) (w : World) (h : SigsAt w (Lo w.heap.size) v.A v.sigs) : Calls Tryz.prog 14 #[.agg (cWv v).toArray] w fun e w' => ∃ M, e = .returned (.pointer (some ⟨M, 0, none⟩)) ∧ w.heap.size ≤ M ∧ SourceAt w' M v (-1) 0 ∧ Below w.heap.size w w' := by
  unfold cWv
  obtain ⟨W0, hW0⟩ : ∃ W0, w.alloc (.cells #[.slice v.A v.sigs.length v.cA, .slice v.G v.gn v.cG, .int .i64 v.fin] 29) = W0 := ⟨_, rfl⟩
  have g0 : W0.heap[w.heap.size]? = some (.cells #[.slice v.A v.sigs.length v.cA, .slice v.G v.gn v.cG, .int .i64 v.fin] 29 (0, 0)) := by rw [← hW0]; exact heap_alloc_new w _
  have hb0 : Below w.heap.size w W0 := by rw [← hW0]; exact (Below.refl _ _).alloc (Nat.le_refl _) _
  have c0 := cell_of_row W0 w.heap.size 0 _ _ (0, 0) g0
  have c1 := cell_of_row W0 w.heap.size 1 _ _ (0, 0) g0
  have c2 := cell_of_row W0 w.heap.size 2 _ _ (0, 0) g0
  simp only [List.getElem?_toArray, List.getElem?_cons_zero, List.getElem?_cons_succ] at c0 c1 c2
  have HW0 := hide hW0
  have hz := hb0.size
  clear hW0 g0
  go_enter Tryz.func14, Tryz.ntmps14
  go_upto_region 1 with (fail)
  rw [HW0.out]
  go_wp2_with fail
  go_ret
  have hb1 : Below w.heap.size w (W0.alloc (memO v (-1) 0)) := hb0.alloc hz _
  exact ⟨W0.heap.size, rfl, hz, ⟨heap_alloc_new W0 (memO v (-1) 0), (h.stay (stay_below hb1 fun _ h => h)).more fun b hb => Nat.lt_of_lt_of_le hb hz⟩, hb1⟩

end Go.Proofs.YtdlebcijgdkfjaaGreatDoor

/-
  condition.Truth at a source just made: what a law about a condition of a small wave needs.
-/
namespace Go.Proofs.YtdlebcijgdkfjaaGreatDoor
open Go.RowKit

/-- the condition has a result in the range -/
def GoodT (v : Wv) (n : Nd) (f t : Int) : Prop := inR v f t ∧ resF n = true ∧ ∀ x ∈ sigF n, sigE v n x = 0
theorem fit_good {v : Wv} {n : Nd} {zs : List Int} (hz : SigsOf n zs) (hok : okF n) : fitE v n zs = 0 ↔ ∀ x ∈ sigF n, sigE v n x = 0 := by
  rw [fitE_ok]
  exact ⟨fun h x hx => h x ((hz.2.2.1 x (sig_I64 n hok x hx)).2 hx), fun h x hx => h x ((hz.2.2.1 x (hz.2.1 x hx)).1 hx)⟩
theorem few_short {most : Nat} (n : Nd) : FewOk most n → n.fold (fun m l => m.value.size ≤ 130 ∧ ∀ p ∈ l, p) := by
  induction n using Nd.ind with
  | h n ih =>
  intro h
  have h2 := (FewOk_eq most n).1 h
  rw [Nd.fold_eq]
  refine ⟨h2.2.1, fun p hp => ?_⟩
  obtain ⟨k, hk, rfl⟩ := List.mem_map.1 hp
  exact ih k hk (h2.2.2.2 k hk)
/-- two lists, normal, of the times at which the condition is true and false -/
structure SetsT (v : Wv) (n : Nd) (f t : Int) (xs ys : List Iv) : Prop where
  nx : Norm xs
  ny : Norm ys
  mx : ∀ x, Mem xs x ↔ setW v n f t ⟨#[49]⟩ x
  my : ∀ x, Mem ys x ↔ setW v n f t ⟨#[48]⟩ x
theorem tree_un {w w' : World} {M : Nat} {n : Nd} (h : TreesAt w (Lo w.heap.size) n.KA n.kids) (hb : Below w.heap.size w w') (hM : w.heap.size ≤ M) : TreesAt w' (Un M w'.heap.size) n.KA n.kids :=
  (h.stay (stay_below hb fun _ h => h)).more fun b hb2 => ⟨Nat.lt_of_lt_of_le hb2 hb.size, fun e => by subst e; exact absurd hb2 (Nat.not_lt.2 hM)⟩
end Go.Proofs.YtdlebcijgdkfjaaGreatDoor

/-
  A region that makes a source of a wave and asks a condition of it: the words for it.
-/
namespace Go.Proofs.YtdlebcijgdkfjaaGreatDoor
open Go.RowKit

def TruSays (v : Wv) (n : Nd) (f t : Int) (w' : World) (A : Option Addr) (lx : Nat) (B : Option Addr) (ly : Nat) (er : Int) : Prop :=
  (¬ GoodT v n f t ∧ er ≠ 0) ∨ (GoodT v n f t ∧ er = 0 ∧ ∃ xs ys : List Iv, lx = xs.length ∧ ly = ys.length ∧ IvsAt w' w'.heap.size A xs ∧ IvsAt w' w'.heap.size B ys ∧ SetsT v n f t xs ys)
theorem TruSays.step {v : Wv} {n : Nd} {f t : Int} {w w' : World} {A B : Option Addr} {lx ly : Nat} {er : Int} (h : TruSays v n f t w A lx B ly er) (hb : Below w.heap.size w w') : TruSays v n f t w' A lx B ly er := by
  rcases h with h | ⟨h1, h2, xs, ys, e1, e2, h3, h4, h5⟩
  · exact .inl h
  · exact .inr ⟨h1, h2, xs, ys, e1, e2, h3.step hb, h4.step hb, h5⟩
/-- the answer, of the lists that the call made -/
def TruRes (v : Wv) (n : Nd) (f t : Int) (w' : World) (A : Option Addr) (lx ca : Nat) (B : Option Addr) (ly cb : Nat) (er : Int) : Prop :=
  (¬ GoodT v n f t ∧ er ≠ 0) ∨ (GoodT v n f t ∧ er = 0 ∧ ∃ xs ys : List Iv, lx = xs.length ∧ ly = ys.length ∧ OwnIv w' 0 A ca xs ∧ OwnIv w' 0 B cb ys ∧ SetsT v n f t xs ys)
theorem TruRes.says {v : Wv} {n : Nd} {f t : Int} {w : World} {A B : Option Addr} {lx ca ly cb : Nat} {er : Int} (h : TruRes v n f t w A lx ca B ly cb er) : TruSays v n f t w A lx B ly er := by
  rcases h with h | ⟨h1, h2, xs, ys, e1, e2, h3, h4, h5⟩
  · exact .inl h
  · exact .inr ⟨h1, h2, xs, ys, e1, e2, h3.ats, h4.ats, h5⟩
theorem truth_res (v : Wv) (n : Nd) (f t : Int) (M : Nat) (w w1 : World) (hb : Below w.heap.size w w1) (hM : w.heap.size ≤ M) (h : SourceAt w1 M v (-1) 0) (hv : SmallOk v) (hf : FewOk 60 n) (ht : TreesAt w (Lo w.heap.size) n.KA n.kids) (hok : okF n) (htab : Tab w) :
    Calls Tryz.prog 17 #[srcV M, .agg (cNd n).toArray, .int .i64 f, .int .i64 t] w1 fun e w2 => ∃ (A : Option Addr) (lx ca : Nat) (B : Option Addr) (ly cb : Nat) (er : Int), e = .returned (.tuple #[.agg #[.slice A lx ca, .slice B ly cb], .int .i64 er]) ∧ TruRes v n f t w2 A lx ca B ly cb er ∧ But w1.heap.size (some M) w1 w2 := by
  refine (truth_any v (-1) 0 M n f t w1 h hv (tree_un ht hb hM) hok hf (few_short n hf) (htab.below hb) (by decide) (by decide) (.inl (by decide)) (fun h => by omega)).mono ?_
  rintro e w2 (⟨h1, rfl, h2⟩ | ⟨h0, h1, rfl, h2⟩ | ⟨h0, h1, zs, hz, ⟨h2, _, rfl, c', h3⟩ | ⟨h2, _, h3, A, ca, xs, B, cb, ys, rfl, ox, oy, nx, ny, mx, my⟩ | ⟨_, h2, _⟩⟩)
  · exact ⟨none, 0, 0, none, 0, 0, 2, rfl, .inl ⟨(fun h => h1 h.1), by decide⟩, h2.2⟩
  · exact ⟨none, 0, 0, none, 0, 0, 7, rfl, .inl ⟨(fun h => by rw [h.2.1] at h1; cases h1), by decide⟩, h2.2⟩
  · exact ⟨none, 0, 0, none, 0, 0, _, rfl, .inl ⟨(fun h => h2 ((fit_good hz hok).2 h.2.2)), h2⟩, h3.2⟩
  · exact ⟨A, _, ca, B, _, cb, 0, rfl, .inr ⟨⟨h0, h1, (fit_good hz hok).1 h2⟩, rfl, xs, ys, rfl, rfl, ox.lower (Nat.zero_le _), oy.lower (Nat.zero_le _), ⟨nx, ny, mx, my⟩⟩, h3.2⟩
  · omega
/-- what such a region leaves: the answer's box and its error -/
def TruBox (v : Wv) (n : Nd) (f t : Int) (W1 wx : World) (a b : Value) : Prop := ∃ (N : Nat) (A : Option Addr) (lx ca : Nat) (B : Option Addr) (ly cb : Nat) (er : Int), a = .pointer (some ⟨N, 0, none⟩) ∧ b = .int .i64 er ∧ wx.heap[N]? = some (.cells #[.slice A lx ca, .slice B ly cb] 45 (0, 0)) ∧ W1.heap.size ≤ N ∧ TruSays v n f t wx A lx B ly er ∧ Below W1.heap.size W1 wx
theorem but_step {W0 W1 W3 : World} {M : Nat} (q : Below W0.heap.size W0 W1) (hb : But W1.heap.size (some M) W1 W3) (hM : W0.heap.size ≤ M) : Below W0.heap.size W0 W3 := q.trans (hb.below q.size fun k e => by injection e with e; omega)
theorem below_al {W0 W : World} (h : Below W0.heap.size W0 W) (o : Obj) : Below W0.heap.size W0 (W.alloc o) := h.alloc h.size o
theorem below_s2 {W0 W : World} (h : Below W0.heap.size W0 W) {N : Nat} (hN : W0.heap.size ≤ N) (u v : Value) : Below W0.heap.size W0 ((W.setCell ⟨N, 0, none⟩ u).setCell ⟨N, 1, none⟩ v) := (h.setCell (p := ⟨N, 0, none⟩) hN _).setCell (p := ⟨N, 1, none⟩) hN _
theorem tru_fin {v : Wv} {n : Nd} {f t : Int} {W1 W3 : World} {N : Nat} {p q : Value} {A B : Option Addr} {lx ca ly cb : Nat} {er : Int} (hr : TruRes v n f t W3 A lx ca B ly cb er) (g : W3.heap[N]? = some (.cells #[p, q] 45 (0, 0))) (hb : Below W1.heap.size W1 W3) (hN : W1.heap.size ≤ N) :
    TruBox v n f t W1 ((W3.setCell ⟨N, 0, none⟩ (.slice A lx ca)).setCell ⟨N, 1, none⟩ (.slice B ly cb)) (.pointer (some ⟨N, 0, none⟩)) (.int .i64 er) := by
  refine ⟨N, A, lx, ca, B, ly, cb, er, rfl, rfl, box2_set g, hN, ?_, below_s2 hb hN _ _⟩
  refine TruRes.says (ca := ca) (cb := cb) ?_
  rcases hr with h | ⟨h1, h2, xs, ys, e1, e2, h3, h4, h5⟩
  · exact .inl h
  · exact .inr ⟨h1, h2, xs, ys, e1, e2, set2_own g h3, set2_own g h4, h5⟩
theorem TruRes.al {v : Wv} {n : Nd} {f t : Int} {w : World} {A B : Option Addr} {lx ca ly cb : Nat} {er : Int} (h : TruRes v n f t w A lx ca B ly cb er) (o : Obj) : TruRes v n f t (w.alloc o) A lx ca B ly cb er := by
  rcases h with h | ⟨h1, h2, xs, ys, e1, e2, h3, h4, h5⟩
  · exact .inl h
  · exact .inr ⟨h1, h2, xs, ys, e1, e2, h3.below ((Below.refl _ _).alloc (Nat.le_refl _) _) (Nat.le_refl _), h4.below ((Below.refl _ _).alloc (Nat.le_refl _) _) (Nat.le_refl _), h5⟩
theorem tru_fin_al {v : Wv} {n : Nd} {f t : Int} {W1 W3 : World} {A B : Option Addr} {lx ca ly cb : Nat} {er : Int} (hr : TruRes v n f t W3 A lx ca B ly cb er) (hb : Below W1.heap.size W1 W3) :
    TruBox v n f t W1 (W3.alloc (.cells #[.slice A lx ca, .slice B ly cb] 45)) (.pointer (some ⟨W3.heap.size, 0, none⟩)) (.int .i64 er) :=
  ⟨W3.heap.size, A, lx, ca, B, ly, cb, er, rfl, rfl, heap_alloc_new _ _, hb.size, (hr.al _).says, below_al hb _⟩
theorem box_first {w w2 w3 : World} {o : Obj} {M : Nat} (hb : Below (w.drew.alloc o).heap.size (w.drew.alloc o) w2) (hM : (w.drew.alloc o).heap.size ≤ M) (hbut : But w2.heap.size (some M) w2 w3) : w3.heap[w.heap.size]? = some o := by
  have h1 : w.heap.size < (w.drew.alloc o).heap.size := by rw [World.size_alloc]; exact Nat.lt_succ_self _
  have h2 : (w.drew.alloc o).heap[w.heap.size]? = some o := heap_alloc_new w.drew o
  exact (hbut.block _ (Nat.lt_of_lt_of_le h1 hb.size) (fun e => by injection e with e; omega)).trans ((hb.block _ h1).trans h2)
theorem box_mid {w2 w3 : World} {o : Obj} {M : Nat} (hM : M < w2.heap.size) (hbut : But (w2.alloc o).heap.size (some M) (w2.alloc o) w3) : w3.heap[w2.heap.size]? = some o :=
  (hbut.block _ (by rw [World.size_alloc]; omega) (fun e => by injection e with e; omega)).trans (heap_alloc_new w2 o)
/-- a wave and a tree in boxes -/
theorem wn_held {W0 : World} {N M : Nat} {a0 a1 a2 b0 b1 b2 b3 b4 b5 b6 b7 b8 : Value} {t t' : TypeId} (h0 : W0.heap[N]? = some (.cells #[a0, a1, a2] t (0, 0))) (h1 : W0.heap[M]? = some (.cells #[b0, b1, b2, b3, b4, b5, b6, b7, b8] t' (0, 0))) (W : World) (hb : Below W0.heap.size W0 W) :
    W.cell? ⟨N, 0, none⟩ = some a0 ∧ W.cell? ⟨N, 1, none⟩ = some a1 ∧ W.cell? ⟨N, 2, none⟩ = some a2 ∧ W.cell? ⟨M, 0, none⟩ = some b0 ∧ W.cell? ⟨M, 1, none⟩ = some b1 ∧ W.cell? ⟨M, 2, none⟩ = some b2 ∧ W.cell? ⟨M, 3, none⟩ = some b3 ∧ W.cell? ⟨M, 4, none⟩ = some b4 ∧ W.cell? ⟨M, 5, none⟩ = some b5 ∧ W.cell? ⟨M, 6, none⟩ = some b6 ∧ W.cell? ⟨M, 7, none⟩ = some b7 ∧ W.cell? ⟨M, 8, none⟩ = some b8 ∧ Below W0.heap.size W0 W := by
  have g0 := (hb.block _ (box_lt h0)).trans h0
  have g1 := (hb.block _ (box_lt h1)).trans h1
  refine ⟨?_, ?_, ?_, ?_, ?_, ?_, ?_, ?_, ?_, ?_, ?_, ?_, hb⟩
  all_goals first | (rw [cell_of_row W N _ _ t (0, 0) g0]; rfl) | (rw [cell_of_row W M _ _ t' (0, 0) g1]; rfl)
end Go.Proofs.YtdlebcijgdkfjaaGreatDoor

/-
  intervals.Without.
-/
namespace Go.Proofs.YtdlebcijgdkfjaaGreatDoor
open Go.RowKit Go.Joins

theorem without_rule : RuleOf 70 (fun x y => x && !y) := by
  intro x y w
  cases x <;> cases y <;>
  · go_enter Tryz.func70, Tryz.ntmps70
    go_wp2
    go_ret
    exact ⟨rfl, rfl⟩

theorem without_any (A B : Option Addr) (c d : Nat) (a b : List Iv) (w : World) (ha : IvsAt w w.heap.size A a) (hb : IvsAt w w.heap.size B b) (hla : a.length ≤ 4398046511104) (hlb : b.length ≤ 4398046511104) :
    Calls Tryz.prog 25 #[.slice A a.length c, .slice B b.length d] w (RetIvs w fun t => Mem a t ∧ ¬ Mem b t) := by
  go_enter Tryz.func25, Tryz.ntmps25
  go_wp2_with fail
  refine (combine_any 70 (enters_of Tryz.func70 (by kernel_rfl) rfl) _ without_rule rfl A B c d a b _ ha hb hla hlb).mono ?_
  rintro e w1 ⟨A1, c1, ys, rfl, hown, hb, hn, hm⟩
  go_wp2_with fail
  go_ret
  exact ⟨A1, c1, ys, rfl, hown, hb, hn, fun t => by rw [hm, Bool.and_eq_true, memT_iff, Bool.not_eq_true', Bool.eq_false_iff, Ne, memT_iff]⟩

end Go.Proofs.YtdlebcijgdkfjaaGreatDoor
