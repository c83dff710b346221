/-
  Several texts in one: Small47. Each says at its head what it holds.
-/
import Derived.Test.YtaaplalfggofiaaGreatDoorEC14
import Derived.Test.YtaaplalfggofiaaGreatDoorEC15

/-
  wavestoreref47.Small: what it says of a wave.
-/
namespace Go.Proofs.YtaaplalfggofiaaGreatDoor
open Go.RowKit

def cGp (g : Int × Int) : List Value := [.int .i64 g.1, .int .i64 g.2]
def SmallPost (v : Wv) (w : World) (e : Ending) (w' : World) : Prop := ∃ b : Bool, e = .returned (.bool b) ∧ (b = true → SmallOk v) ∧ Below w.heap.size w w'
/-- the first changes of a signal are as they must be -/
def ChUpto (fin : Int) (s : Sgn) (k : Nat) : Prop := (∀ i c, i < k → s.chs[i]? = some c → 0 ≤ c.time ∧ c.time ≤ fin ∧ vOk s c.val) ∧ ∀ i c d, i + 1 < k → s.chs[i]? = some c → s.chs[i + 1]? = some d → c.time < d.time
theorem ChUpto.step {fin : Int} {s : Sgn} {k : Nat} (h : ChUpto fin s k) {c : Chg} (hc : s.chs[k]? = some c) (h0 : 0 ≤ c.time) (h1 : c.time ≤ fin) (h2 : vOk s c.val) (hp : ∀ i d, k = i + 1 → s.chs[i]? = some d → d.time < c.time) : ChUpto fin s (k + 1) := by
  refine ⟨fun i d hi hd => ?_, fun i a d hi ha hd => ?_⟩
  · rcases Nat.lt_or_ge i k with h3 | h3
    · exact h.1 i d h3 hd
    · have : i = k := by omega
      subst this
      rw [hc] at hd
      cases hd
      exact ⟨h0, h1, h2⟩
  · rcases Nat.lt_or_ge (i + 1) k with h3 | h3
    · exact h.2 i a d h3 ha hd
    · have : k = i + 1 := by omega
      subst this
      rw [hc] at hd
      cases hd
      exact hp i a rfl ha
theorem ChUpto.whole {fin : Int} {s : Sgn} (h : ChUpto fin s s.chs.length) (hk : 0 ≤ s.kind ∧ s.kind ≤ 3) (hw : (s.kind = 0 → 1 ≤ s.width ∧ s.width ≤ 64) ∧ (s.kind ≠ 0 → s.width = 0)) (hl : s.chs.length ≤ 20) : SgOk fin s := by
  refine ⟨hk, hw, hl, ?_, fun c hc => ?_⟩
  · unfold Sorted47
    rw [List.pairwise_iff_getElem]
    intro i j hi hj hij
    have key : ∀ d i (hi : i < s.chs.length) (hj : i + d + 1 < s.chs.length), s.chs[i].time < (s.chs[i + d + 1]).time := by
      intro d
      induction d with
      | zero => intro i hi hj; exact h.2 i _ _ hj (List.getElem?_eq_getElem hi) (List.getElem?_eq_getElem hj)
      | succ d ih =>
        intro i hi hj
        have h1 := ih i hi (by omega)
        have h2 := h.2 (i + d + 1) _ _ (by omega) (List.getElem?_eq_getElem (by omega)) (List.getElem?_eq_getElem (by omega))
        have h3 : i + (d + 1) + 1 = i + d + 1 + 1 := by omega
        simp only [h3]
        omega
    have h4 := key (j - i - 1) i hi (by omega)
    have h5 : i + (j - i - 1) + 1 = j := by omega
    simpa only [h5] using h4
  · obtain ⟨i, hi⟩ := List.getElem?_of_mem hc
    exact h.1 i c (by have := (List.getElem?_eq_some_iff.1 hi).1; omega) hi
/-- the value before a change -/
def prevV (s : Sgn) : Nat → ByteArray
  | 0 => bs (initB s)
  | i + 1 => (s.chs[i]?.map Chg.val).getD ⟨#[]⟩
/-- no change keeps the value -/
def NormC (s : Sgn) : Prop := s.kind ≠ 3 → ∀ i c, s.chs[i]? = some c → c.val ≠ prevV s i
def NormUpto (s : Sgn) (k : Nat) : Prop := s.kind ≠ 3 → ∀ i c, i < k → s.chs[i]? = some c → c.val ≠ prevV s i
theorem NormUpto.step {s : Sgn} {k : Nat} (h : NormUpto s k) {c : Chg} (hc : s.chs[k]? = some c) (hn : s.kind ≠ 3 → c.val ≠ prevV s k) : NormUpto s (k + 1) := fun h3 i d hi hd => by
  rcases Nat.lt_or_ge i k with h4 | h4
  · exact h h3 i d h4 hd
  · have : i = k := by omega
    subst this
    rw [hc] at hd
    cases hd
    exact hn h3
theorem NormUpto.whole {s : Sgn} (h : NormUpto s s.chs.length) : NormC s := fun h3 i c hc => h h3 i c (List.getElem?_eq_some_iff.1 hc).1 hc
theorem prevV_succ {s : Sgn} {k : Nat} {c : Chg} (hc : s.chs[k]? = some c) : c.val = prevV s (k + 1) := by
  show c.val = (s.chs[k]?.map Chg.val).getD ⟨#[]⟩
  rw [hc]; rfl
def NormV (v : Wv) : Prop := ∀ s ∈ v.sigs, NormC s
def SmallPostN (v : Wv) (w : World) (e : Ending) (w' : World) : Prop := ∃ b : Bool, e = .returned (.bool b) ∧ (b = true → SmallOk v ∧ NormV v) ∧ Below w.heap.size w w'
def SgRel (v : Wv) (w : World) (i : Value) (wr : World) : Prop := ∃ j : Nat, j ≤ v.sigs.length ∧ i = .int .i64 (j : Int) ∧ (∀ x ∈ v.sigs.take j, SgOk v.fin x ∧ NormC x) ∧ Below w.heap.size w wr
def ChgRel (fin : Int) (s : Sgn) (w : World) (b i : Value) (wr : World) : Prop := ∃ (k : Nat) (t : ByteArray), k ≤ s.chs.length ∧ i = .int .i64 (k : Int) ∧ b = .string t ∧ (t = prevV s k ∧ NormUpto s k) ∧ ChUpto fin s k ∧ Below w.heap.size w wr
def GpRel (n : Nat) (w : World) (i : Value) (wr : World) : Prop := ∃ j : Nat, j ≤ n ∧ i = .int .i64 (j : Int) ∧ Below w.heap.size w wr
theorem sgs_take {fin : Int} {l : List Sgn} {j : Nat} (h : ∀ x ∈ l.take j, SgOk fin x ∧ NormC x) (hj : j < l.length) (h1 : SgOk fin l[j] ∧ NormC l[j]) : ∀ x ∈ l.take (j + 1), SgOk fin x ∧ NormC x := by
  rw [List.take_succ_eq_append_getElem hj]
  intro x hx
  rcases List.mem_append.1 hx with h2 | h2
  · exact h x h2
  · rw [List.mem_singleton.1 h2]; exact h1

set_option maxRecDepth 100000 in
set_option maxHeartbeats 16000000 in
theorem small_norm (v : Wv) (gs : List (Int × Int)) (w : World) (hS : SigsAt w (Lo w.heap.size) v.A v.sigs) (hG : Row w (Lo w.heap.size) 2 cGp v.G gs) (hgn : v.gn = gs.length) (hsz : ∀ s ∈ v.sigs, ∀ c ∈ s.chs, c.val.size ≤ 9223372036854775807) :
    Calls Tryz.prog 50 #[.agg (cWv v).toArray] w (SmallPostN v w) := by
  obtain ⟨A, cA, sigs, G, gn, cG, fin⟩ := v
  dsimp only at *
  subst hgn
  unfold cWv
  obtain ⟨W0, hW0⟩ : ∃ W0, w.alloc (.cells #[.slice A sigs.length cA, .slice G gs.length cG, .int .i64 fin] 25) = W0 := ⟨_, rfl⟩
  have g0 : W0.heap[w.heap.size]? = some (.cells #[.slice A sigs.length cA, .slice G gs.length cG, .int .i64 fin] 25 (0, 0)) := by rw [← hW0]; exact heap_alloc_new w _
  have hb0 : Below w.heap.size w W0 := by rw [← hW0]; exact (Below.refl _ _).alloc (Nat.le_refl _) _
  obtain ⟨N, hN⟩ : ∃ N, w.heap.size = N := ⟨_, rfl⟩
  rw [hN] at g0
  have c0 := cell_of_row W0 N 0 _ _ (0, 0) g0
  have c1 := cell_of_row W0 N 1 _ _ (0, 0) g0
  have c2 := cell_of_row W0 N 2 _ _ (0, 0) g0
  simp only [List.getElem?_toArray, List.getElem?_cons_zero, List.getElem?_cons_succ] at c0 c1 c2
  have HW0 := hide hW0
  have HS := hide (⟨hS.row.grow hb0, fun s hs => (hS.each s hs).grow hb0⟩ : SigsAt W0 (Lo W0.heap.size) A sigs)
  have HG := hide (hG.grow hb0)
  have HSZ := hide hsz
  have HE := hide (fun (b : Bool) (wr : World) (hb : Below W0.heap.size W0 wr) (h : b = true → SmallOk ⟨A, cA, sigs, G, gs.length, cG, fin⟩ ∧ NormV ⟨A, cA, sigs, G, gs.length, cG, fin⟩) => show SmallPostN ⟨A, cA, sigs, G, gs.length, cG, fin⟩ w (.returned (.bool b)) wr from ⟨b, rfl, h, bstep hb0 hb⟩)
  have HF := hide (fun (wr : World) (hb : Below W0.heap.size W0 wr) => HE.out false wr hb (fun h => by cases h))
  have HC := hide (And.intro c0 (And.intro c1 c2))
  clear hS hG hsz g0 hb0 hW0
  go_enter Tryz.func50, Tryz.ntmps50
  go_upto_region 1 with (fail)
  rw [HW0.out]
  by_cases h8 : (8 : Int) < (sigs.length : Int)
  · go_wp2_with fail
    go_ret
    exact HF.out _ (Below.refl _ _)
  by_cases h4 : (4 : Int) < (gs.length : Int)
  · go_wp2_with fail
    go_ret
    exact HF.out _ (Below.refl _ _)
  by_cases hf0 : fin < 0
  · go_wp2_with fail
    go_ret
    exact HF.out _ (Below.refl _ _)
  by_cases hf1 : (1099511627776 : Int) < fin
  · go_wp2_with fail
    go_ret
    exact HF.out _ (Below.refl _ _)
  go_wp2_with fail
  clear hN c0 c1 c2
  go_loopw [3] (fun i wr => SgRel ⟨A, cA, sigs, G, gs.length, cG, fin⟩ W0 i wr) (fun i _ => sigs.length - (intOf i).toNat)
  case atStart => exact ⟨0, Nat.zero_le _, rfl, (fun x h => by rw [List.take_zero] at h; cases h), Below.refl _ _⟩
  case round =>
    obtain ⟨V, rfl⟩ : ∃ w2 : World, w2 = wr := ⟨_, rfl⟩
    obtain ⟨j, hj, rfl, hok, hbr⟩ := hrel
    dsimp only at hj hok
    have HBR := hide hbr
    have HOK := hide hok
    obtain ⟨k0, k1, k2⟩ := HC.out
    have c0 := cell_later hbr k0
    have c1 := cell_later hbr k1
    have c2 := cell_later hbr k2
    clear hok hbr k0 k1 k2
    by_cases hlt : j < sigs.length
    · obtain ⟨sb, so, rfl, hP, hc⟩ := (HS.out.row.grow HBR.out).at_ hlt
      have hmem := List.getElem_mem hlt
      have HR := hide ((HS.out.each _ hmem).grow HBR.out)
      have HZ := hide (HSZ.out _ hmem)
      have HOK2 := hide (fun h => sgs_take HOK.out hlt h)
      generalize sigs[j] = s at *
      obtain ⟨kind, width, CA, cc, chs⟩ := s
      dsimp only at HR HZ
      simp only [cSgn] at hc
      have s0 := hc 0 (by omega)
      have s1 := hc 1 (by omega)
      have s2 := hc 2 (by omega)
      simp only [List.getElem?_cons_zero, List.getElem?_cons_succ, Nat.add_zero] at s0 s1 s2
      clear hc hmem
      obtain ⟨W1, hW1⟩ : ∃ W1, V.alloc (.cells #[.int .i64 kind, .int .i64 width, .slice CA chs.length cc] 49) = W1 := ⟨_, rfl⟩
      have g1 : W1.heap[V.heap.size]? = some (.cells #[.int .i64 kind, .int .i64 width, .slice CA chs.length cc] 49 (0, 0)) := by rw [← hW1]; exact heap_alloc_new V _
      have hb1 : Below V.heap.size V W1 := by rw [← hW1]; exact (Below.refl _ _).alloc (Nat.le_refl _) _
      go_upto_region 7 with (fail)
      obtain ⟨D, hD⟩ : ∃ D, V.heap.size = D := ⟨_, rfl⟩
      rw [hD] at g1
      rw [hD]
      have c0 := cell_later hb1 c0
      have c1 := cell_later hb1 c1
      have c2 := cell_later hb1 c2
      have HB1 := hide (bstep HBR.out hb1)
      have HR1 := hide (HR.out.grow hb1)
      clear hW1 s0 s1 s2 hP HR hb1
      have d0 := cell_of_row W1 D 0 _ _ (0, 0) g1
      have d1 := cell_of_row W1 D 1 _ _ (0, 0) g1
      have d2 := cell_of_row W1 D 2 _ _ (0, 0) g1
      simp only [List.getElem?_toArray, List.getElem?_cons_zero, List.getElem?_cons_succ] at d0 d1 d2
      have HD := hide (And.intro d0 (And.intro d1 d2))
      have HCW := hide (And.intro c0 (And.intro c1 c2))
      clear g1 hD
      go_cut [80] (fun v wx => ∃ b : Bool, v = .bool b ∧ wx = W1 ∧ (b = false → (0 ≤ kind ∧ kind ≤ 3) ∧ chs.length ≤ 20 ∧ (kind = 0 → 1 ≤ width ∧ width ≤ 64) ∧ (kind ≠ 0 → width = 0)))
      case first =>
        by_cases a0 : kind < 0
        · go_wp2_with fail
          go_meet
          exact ⟨_, rfl, rfl, fun h => by cases h⟩
        by_cases a1 : (3 : Int) < kind
        · go_wp2_with fail
          go_meet
          exact ⟨_, rfl, rfl, fun h => by cases h⟩
        by_cases a2 : (20 : Int) < (chs.length : Int)
        · go_wp2_with fail
          go_meet
          exact ⟨_, rfl, rfl, fun h => by cases h⟩
        by_cases a3 : kind = 0
        · subst a3
          by_cases a4 : width < 1
          · go_wp2_with fail
            go_meet
            exact ⟨_, rfl, rfl, fun h => by cases h⟩
          by_cases a5 : (64 : Int) < width
          · go_wp2_with fail
            go_meet
            exact ⟨_, rfl, rfl, fun h => by cases h⟩
          go_wp2_with fail
          go_meet
          exact ⟨_, rfl, rfl, fun _ => ⟨⟨by omega, by omega⟩, by omega, fun _ => ⟨by omega, by omega⟩, fun h => absurd rfl h⟩⟩
        · have T3 : (kind == 0) = false := beq_eq_false_iff_ne.2 a3
          have T4 : (kind != 0) = true := bne_iff_ne.2 a3
          by_cases a4 : width = 0
          · have T5 : (width != 0) = false := by rw [a4]; rfl
            have HA := hide a4
            clear a4
            go_wp2_with fail
            go_meet
            exact ⟨_, rfl, rfl, fun _ => ⟨⟨by omega, by omega⟩, by omega, fun h => absurd h a3, fun _ => HA.out⟩⟩
          · have T5 : (width != 0) = true := bne_iff_ne.2 a4
            go_wp2_with fail
            go_meet
            exact ⟨_, rfl, rfl, fun h => by cases h⟩
      case rest =>
        obtain ⟨b, rfl, rfl, hfacts⟩ := hcut
        cases b with
        | true =>
          go_wp2_with fail
          go_ret
          exact HF.out _ HB1.out
        | false =>
          obtain ⟨f0, f1, f2, f3⟩ := hfacts rfl
          clear hfacts
          have HFS := hide (And.intro f0 (And.intro f2 f3))
          have HI := hide (fun W => initial_any kind width CA chs.length cc W (fun h => by have := f2 h; omega))
          clear f2 f3
          go_wp2_with fail
          refine (HI.out _).mono ?_
          rintro e W2 ⟨rfl, hb2⟩
          have HB2 := hide (bstep HB1.out hb2)
          have HR2 := hide (HR1.out.grow hb2)
          obtain ⟨q0, q1, q2⟩ := HD.out
          obtain ⟨p0, p1, p2⟩ := HCW.out
          have HD2 := hide (And.intro (cell_later hb2 q0) (And.intro (cell_later hb2 q1) (cell_later hb2 q2)))
          have HC2 := hide (And.intro (cell_later hb2 p0) (And.intro (cell_later hb2 p1) (cell_later hb2 p2)))
          clear hb2 q0 q1 q2 p0 p1 p2 d0 d1 d2 c0 c1 c2 HD HCW HR1
          go_wp2_with fail
          go_loopw [5, 6] (fun b i wr => ChgRel fin ⟨kind, width, CA, cc, chs⟩ W2 b i wr) (fun _ i _ => chs.length - (intOf i).toNat)
          case atStart => exact ⟨0, _, Nat.zero_le _, rfl, rfl, ⟨rfl, fun _ i c h => by omega⟩, ⟨fun i c h => by omega, fun i c d h => by omega⟩, Below.refl _ _⟩
          case round =>
            obtain ⟨X, rfl⟩ : ∃ w2 : World, w2 = wr := ⟨_, rfl⟩
            obtain ⟨k, t, hk, rfl, rfl, hnt, hup, hbr⟩ := hrel
            have HNT := hide hnt
            clear hnt
            have HUP := hide hup
            have HBX := hide (bstep HB2.out hbr)
            have HB2X := hide hbr
            have HRX := hide (HR2.out.grow hbr)
            obtain ⟨q0, q1, q2⟩ := HD2.out
            obtain ⟨p0, p1, p2⟩ := HC2.out
            have d0 := cell_later hbr q0
            have d1 := cell_later hbr q1
            have d2 := cell_later hbr q2
            have c0 := cell_later hbr p0
            have c1 := cell_later hbr p1
            have c2 := cell_later hbr p2
            clear hup hbr q0 q1 q2 p0 p1 p2
            by_cases hlt2 : k < chs.length
            · obtain ⟨cb, co, rfl, hP, hc⟩ := HRX.out.at_ hlt2
              have hck : chs[k]? = some chs[k] := List.getElem?_eq_getElem hlt2
              have hprev : ∀ i, k = i + 1 → ∃ y, chs[i]? = some y ∧ X.cell? ⟨cb, co + i * 2, none⟩ = some (.int .i64 y.time) := fun i e => by
                have hy : i < chs.length := by omega
                obtain ⟨cb', co', e', _, hc'⟩ := HRX.out.at_ hy
                injection e' with e'
                injection e' with e1 e2
                subst e1 e2
                exact ⟨_, List.getElem?_eq_getElem hy, hc' 0 (by omega)⟩
              have hszk := HZ.out _ (List.getElem_mem hlt2)
              generalize chs[k] = cg at *
              obtain ⟨ct, cv⟩ := cg
              dsimp only at hszk
              simp only [cChg] at hc
              have s0 := hc 0 (by omega)
              have s1 := hc 1 (by omega)
              simp only [List.getElem?_cons_zero, List.getElem?_cons_succ, Nat.add_zero] at s0 s1
              have HSTEP := hide (fun (h0 : 0 ≤ ct) (h1 : ct ≤ fin) (h2 : vOk ⟨kind, width, some ⟨cb, co, none⟩, cc, chs⟩ cv) (hp : ∀ i d, k = i + 1 → chs[i]? = some d → d.time < ct) => HUP.out.step hck h0 h1 h2 hp)
              have HNS := hide (fun (hn : kind ≠ 3 → cv ≠ t) => show cv = prevV ⟨kind, width, some ⟨cb, co, none⟩, cc, chs⟩ (k + 1) ∧ NormUpto ⟨kind, width, some ⟨cb, co, none⟩, cc, chs⟩ (k + 1) from ⟨prevV_succ (c := ⟨ct, cv⟩) hck, HNT.out.2.step (c := ⟨ct, cv⟩) hck fun h3 => by rw [← HNT.out.1]; exact hn h3⟩)
              clear hc hck HNT
              obtain ⟨W3, hW3⟩ : ∃ W3, X.alloc (.cells #[.int .i64 ct, .string cv] 131) = W3 := ⟨_, rfl⟩
              have g3 : W3.heap[X.heap.size]? = some (.cells #[.int .i64 ct, .string cv] 131 (0, 0)) := by rw [← hW3]; exact heap_alloc_new X _
              have hb3 : Below X.heap.size X W3 := by rw [← hW3]; exact (Below.refl _ _).alloc (Nat.le_refl _) _
              go_upto_region 14 with (fail)
              obtain ⟨Y, hY⟩ : ∃ Y, X.heap.size = Y := ⟨_, rfl⟩
              rw [hY] at g3
              rw [hY]
              have c0 := cell_later hb3 c0
              have c1 := cell_later hb3 c1
              have c2 := cell_later hb3 c2
              have d0 := cell_later hb3 d0
              have d1 := cell_later hb3 d1
              have d2 := cell_later hb3 d2
              have HPV := hide (fun i e => (hprev i e).imp fun y (h : _ ∧ _) => And.intro h.1 (cell_later hb3 h.2))
              have HBY := hide (bstep HBX.out hb3)
              have HB2Y := hide (bstep HB2X.out hb3)
              have HV := hide (fun W => value47_any kind width (some ⟨cb, co, none⟩) chs.length cc cv W hszk)
              clear hW3 s0 s1 hP hb3 hprev
              have e0 := cell_of_row W3 Y 0 _ _ (0, 0) g3
              have e1 := cell_of_row W3 Y 1 _ _ (0, 0) g3
              simp only [List.getElem?_toArray, List.getElem?_cons_zero, List.getElem?_cons_succ] at e0 e1
              clear g3 hY
              have HX0 := hide (And.intro e0 (And.intro e1 (And.intro d0 (And.intro d1 d2))))
              go_cut [138] (fun v wx => ∃ b : Bool, v = .bool b ∧ Below W3.heap.size W3 wx ∧ (b = false → 0 ≤ ct ∧ ct ≤ fin ∧ val47B kind width cv = true ∧ (∀ i d, k = i + 1 → chs[i]? = some d → d.time < ct) ∧ (kind ≠ 3 → cv ≠ t)))
              case first =>
                clear c0 c1
                by_cases a0 : ct < 0
                · have yq := e0
                  have T0 : decide (ct < 0) = true := decide_eq_true a0
                  refine region_grown (W0 := W3) (by kernel_rfl) (by kernel_rfl) (Below.refl _ _) ?_
                  repeat (go_big_quiet_step (first | exact fun _ => rfl | exact fun hw => ((HV.out _).mono fun e w2 h => ⟨h.1, bstep hw h.2⟩) | exact fun hw => by (first | rw [cell_later hw e0] | rw [cell_later hw e1] | rw [cell_later hw d0] | rw [cell_later hw d1] | rw [cell_later hw d2] | rw [cell_later hw c2] | rw [cell_later hw yq]); exact ⟨rfl, rfl⟩ | exact fun hw => by simp only [cell_later hw d0, cell_later hw d1, cell_later hw d2, Result.andThen]; exact ⟨trivial, rfl⟩))
                  refine wpQuiet_nil ?_
                  rintro _ ⟨⟨wx, hwx⟩, rfl⟩
                  have HW := hide hwx
                  go_wp2_with fail
                  go_meet
                  exact ⟨_, rfl, HW.out, fun h => by cases h⟩
                have T0 : decide (ct < 0) = false := decide_eq_false a0
                by_cases a1 : fin < ct
                · have yq := e0
                  have T1 : decide (fin < ct) = true := decide_eq_true a1
                  refine region_grown (W0 := W3) (by kernel_rfl) (by kernel_rfl) (Below.refl _ _) ?_
                  repeat (go_big_quiet_step (first | exact fun _ => rfl | exact fun hw => ((HV.out _).mono fun e w2 h => ⟨h.1, bstep hw h.2⟩) | exact fun hw => by (first | rw [cell_later hw e0] | rw [cell_later hw e1] | rw [cell_later hw d0] | rw [cell_later hw d1] | rw [cell_later hw d2] | rw [cell_later hw c2] | rw [cell_later hw yq]); exact ⟨rfl, rfl⟩ | exact fun hw => by simp only [cell_later hw d0, cell_later hw d1, cell_later hw d2, Result.andThen]; exact ⟨trivial, rfl⟩))
                  refine wpQuiet_nil ?_
                  rintro _ ⟨⟨wx, hwx⟩, rfl⟩
                  have HW := hide hwx
                  go_wp2_with fail
                  go_meet
                  exact ⟨_, rfl, HW.out, fun h => by cases h⟩
                have T1 : decide (fin < ct) = false := decide_eq_false a1
                rcases Nat.eq_zero_or_pos k with rfl | hkp
                · have yq := e0
                  cases hv : val47B kind width cv with
                  | false =>
                    rw [hv] at HV
                    refine region_grown (W0 := W3) (by kernel_rfl) (by kernel_rfl) (Below.refl _ _) ?_
                    repeat (go_big_quiet_step (first | exact fun _ => rfl | exact fun hw => ((HV.out _).mono fun e w2 h => ⟨h.1, bstep hw h.2⟩) | exact fun hw => by (first | rw [cell_later hw e0] | rw [cell_later hw e1] | rw [cell_later hw d0] | rw [cell_later hw d1] | rw [cell_later hw d2] | rw [cell_later hw c2] | rw [cell_later hw yq]); exact ⟨rfl, rfl⟩ | exact fun hw => by simp only [cell_later hw d0, cell_later hw d1, cell_later hw d2, Result.andThen]; exact ⟨trivial, rfl⟩))
                    refine wpQuiet_nil ?_
                    rintro _ ⟨⟨wx, hwx⟩, rfl⟩
                    have HW := hide hwx
                    go_wp2_with fail
                    go_meet
                    exact ⟨_, rfl, HW.out, fun h => by cases h⟩
                  | true =>
                    rw [hv] at HV
                    by_cases a3 : kind = 3
                    · have T5 : (kind != 3) = false := by rw [a3]; rfl
                      have HA3 := hide a3
                      clear a3
                      refine region_grown (W0 := W3) (by kernel_rfl) (by kernel_rfl) (Below.refl _ _) ?_
                      repeat (go_big_quiet_step (first | exact fun _ => rfl | exact fun hw => ((HV.out _).mono fun e w2 h => ⟨h.1, bstep hw h.2⟩) | exact fun hw => by (first | rw [cell_later hw e0] | rw [cell_later hw e1] | rw [cell_later hw d0] | rw [cell_later hw d1] | rw [cell_later hw d2] | rw [cell_later hw c2] | rw [cell_later hw yq]); exact ⟨rfl, rfl⟩ | exact fun hw => by simp only [cell_later hw d0, cell_later hw d1, cell_later hw d2, Result.andThen]; exact ⟨trivial, rfl⟩))
                      refine wpQuiet_nil ?_
                      rintro _ ⟨⟨wx, hwx⟩, rfl⟩
                      have HW := hide hwx
                      go_wp2_with fail
                      go_meet
                      exact ⟨_, rfl, HW.out, fun _ => ⟨by omega, by omega, hv, (fun i d h => by omega), fun h => absurd HA3.out h⟩⟩
                    have T5 : (kind != 3) = true := bne_iff_ne.2 a3
                    cases T6 : (cv.toList == t.toList) with
                    | false =>
                      refine region_grown (W0 := W3) (by kernel_rfl) (by kernel_rfl) (Below.refl _ _) ?_
                      repeat (go_big_quiet_step (first | exact fun _ => rfl | exact fun hw => ((HV.out _).mono fun e w2 h => ⟨h.1, bstep hw h.2⟩) | exact fun hw => by (first | rw [cell_later hw e0] | rw [cell_later hw e1] | rw [cell_later hw d0] | rw [cell_later hw d1] | rw [cell_later hw d2] | rw [cell_later hw c2] | rw [cell_later hw yq]); exact ⟨rfl, rfl⟩ | exact fun hw => by simp only [cell_later hw d0, cell_later hw d1, cell_later hw d2, Result.andThen]; exact ⟨trivial, rfl⟩))
                      refine wpQuiet_nil ?_
                      rintro _ ⟨⟨wx, hwx⟩, rfl⟩
                      have HW := hide hwx
                      go_wp2_with fail
                      go_meet
                      exact ⟨_, rfl, HW.out, fun _ => ⟨by omega, by omega, hv, (fun i d h => by omega), fun _ he => by rw [he] at T6; simp at T6⟩⟩
                    | true =>
                      refine region_grown (W0 := W3) (by kernel_rfl) (by kernel_rfl) (Below.refl _ _) ?_
                      repeat (go_big_quiet_step (first | exact fun _ => rfl | exact fun hw => ((HV.out _).mono fun e w2 h => ⟨h.1, bstep hw h.2⟩) | exact fun hw => by (first | rw [cell_later hw e0] | rw [cell_later hw e1] | rw [cell_later hw d0] | rw [cell_later hw d1] | rw [cell_later hw d2] | rw [cell_later hw c2] | rw [cell_later hw yq]); exact ⟨rfl, rfl⟩ | exact fun hw => by simp only [cell_later hw d0, cell_later hw d1, cell_later hw d2, Result.andThen]; exact ⟨trivial, rfl⟩))
                      refine wpQuiet_nil ?_
                      rintro _ ⟨⟨wx, hwx⟩, rfl⟩
                      have HW := hide hwx
                      go_wp2_with fail
                      go_meet
                      exact ⟨_, rfl, HW.out, fun h => by cases h⟩
                · obtain ⟨i, rfl⟩ : ∃ i, k = i + 1 := ⟨k - 1, by omega⟩
                  obtain ⟨y, hy, yq⟩ := HPV.out i rfl
                  have hi1 : (((i + 1 : Nat) : Int)) - 1 = (i : Int) := by omega
                  have T2 : decide (0 < ((i + 1 : Nat) : Int)) = true := decide_eq_true (by omega)
                  have HYT := hide hy
                  clear hy
                  by_cases a2 : ct ≤ y.time
                  · have T3 : decide (ct ≤ y.time) = true := decide_eq_true a2
                    refine region_grown (W0 := W3) (by kernel_rfl) (by kernel_rfl) (Below.refl _ _) ?_
                    repeat (go_big_quiet_step (first | exact fun _ => rfl | exact fun hw => ((HV.out _).mono fun e w2 h => ⟨h.1, bstep hw h.2⟩) | exact fun hw => by (first | rw [cell_later hw e0] | rw [cell_later hw e1] | rw [cell_later hw d0] | rw [cell_later hw d1] | rw [cell_later hw d2] | rw [cell_later hw c2] | rw [cell_later hw yq]); exact ⟨rfl, rfl⟩ | exact fun hw => by simp only [cell_later hw d0, cell_later hw d1, cell_later hw d2, Result.andThen]; exact ⟨trivial, rfl⟩))
                    refine wpQuiet_nil ?_
                    rintro _ ⟨⟨wx, hwx⟩, rfl⟩
                    have HW := hide hwx
                    go_wp2_with fail
                    go_meet
                    exact ⟨_, rfl, HW.out, fun h => by cases h⟩
                  have T3 : decide (ct ≤ y.time) = false := decide_eq_false a2
                  have HPP := hide (show ∀ i' d, i + 1 = i' + 1 → chs[i']? = some d → d.time < ct from fun i' d h hd => by
                    have : i' = i := by omega
                    subst this
                    rw [HYT.out] at hd
                    cases hd
                    omega)
                  cases hv : val47B kind width cv with
                  | false =>
                    rw [hv] at HV
                    refine region_grown (W0 := W3) (by kernel_rfl) (by kernel_rfl) (Below.refl _ _) ?_
                    repeat (go_big_quiet_step (first | exact fun _ => rfl | exact fun hw => ((HV.out _).mono fun e w2 h => ⟨h.1, bstep hw h.2⟩) | exact fun hw => by (first | rw [cell_later hw e0] | rw [cell_later hw e1] | rw [cell_later hw d0] | rw [cell_later hw d1] | rw [cell_later hw d2] | rw [cell_later hw c2] | rw [cell_later hw yq]); exact ⟨rfl, rfl⟩ | exact fun hw => by simp only [cell_later hw d0, cell_later hw d1, cell_later hw d2, Result.andThen]; exact ⟨trivial, rfl⟩))
                    refine wpQuiet_nil ?_
                    rintro _ ⟨⟨wx, hwx⟩, rfl⟩
                    have HW := hide hwx
                    go_wp2_with fail
                    go_meet
                    exact ⟨_, rfl, HW.out, fun h => by cases h⟩
                  | true =>
                    rw [hv] at HV
                    by_cases a3 : kind = 3
                    · have T5 : (kind != 3) = false := by rw [a3]; rfl
                      have HA3 := hide a3
                      clear a3
                      refine region_grown (W0 := W3) (by kernel_rfl) (by kernel_rfl) (Below.refl _ _) ?_
                      repeat (go_big_quiet_step (first | exact fun _ => rfl | exact fun hw => ((HV.out _).mono fun e w2 h => ⟨h.1, bstep hw h.2⟩) | exact fun hw => by (first | rw [cell_later hw e0] | rw [cell_later hw e1] | rw [cell_later hw d0] | rw [cell_later hw d1] | rw [cell_later hw d2] | rw [cell_later hw c2] | rw [cell_later hw yq]); exact ⟨rfl, rfl⟩ | exact fun hw => by simp only [cell_later hw d0, cell_later hw d1, cell_later hw d2, Result.andThen]; exact ⟨trivial, rfl⟩))
                      refine wpQuiet_nil ?_
                      rintro _ ⟨⟨wx, hwx⟩, rfl⟩
                      have HW := hide hwx
                      go_wp2_with fail
                      go_meet
                      exact ⟨_, rfl, HW.out, fun _ => ⟨by omega, by omega, hv, HPP.out, fun h => absurd HA3.out h⟩⟩
                    have T5 : (kind != 3) = true := bne_iff_ne.2 a3
                    cases T6 : (cv.toList == t.toList) with
                    | false =>
                      refine region_grown (W0 := W3) (by kernel_rfl) (by kernel_rfl) (Below.refl _ _) ?_
                      repeat (go_big_quiet_step (first | exact fun _ => rfl | exact fun hw => ((HV.out _).mono fun e w2 h => ⟨h.1, bstep hw h.2⟩) | exact fun hw => by (first | rw [cell_later hw e0] | rw [cell_later hw e1] | rw [cell_later hw d0] | rw [cell_later hw d1] | rw [cell_later hw d2] | rw [cell_later hw c2] | rw [cell_later hw yq]); exact ⟨rfl, rfl⟩ | exact fun hw => by simp only [cell_later hw d0, cell_later hw d1, cell_later hw d2, Result.andThen]; exact ⟨trivial, rfl⟩))
                      refine wpQuiet_nil ?_
                      rintro _ ⟨⟨wx, hwx⟩, rfl⟩
                      have HW := hide hwx
                      go_wp2_with fail
                      go_meet
                      exact ⟨_, rfl, HW.out, fun _ => ⟨by omega, by omega, hv, HPP.out, fun _ he => by rw [he] at T6; simp at T6⟩⟩
                    | true =>
                      refine region_grown (W0 := W3) (by kernel_rfl) (by kernel_rfl) (Below.refl _ _) ?_
                      repeat (go_big_quiet_step (first | exact fun _ => rfl | exact fun hw => ((HV.out _).mono fun e w2 h => ⟨h.1, bstep hw h.2⟩) | exact fun hw => by (first | rw [cell_later hw e0] | rw [cell_later hw e1] | rw [cell_later hw d0] | rw [cell_later hw d1] | rw [cell_later hw d2] | rw [cell_later hw c2] | rw [cell_later hw yq]); exact ⟨rfl, rfl⟩ | exact fun hw => by simp only [cell_later hw d0, cell_later hw d1, cell_later hw d2, Result.andThen]; exact ⟨trivial, rfl⟩))
                      refine wpQuiet_nil ?_
                      rintro _ ⟨⟨wx, hwx⟩, rfl⟩
                      have HW := hide hwx
                      go_wp2_with fail
                      go_meet
                      exact ⟨_, rfl, HW.out, fun h => by cases h⟩
              case rest =>
                obtain ⟨b, rfl, hbw, hfacts⟩ := hcut
                obtain ⟨q0, q1, q2, q3, q4⟩ := HX0.out
                have e0 := cell_later hbw q0
                have e1 := cell_later hbw q1
                have HBW := hide hbw
                clear hbw q0 q1 q2 q3 q4 c0 c1 c2 d0 d1 d2
                cases b with
                | true =>
                  go_wp2_with fail
                  go_ret
                  exact HF.out _ (bstep HBY.out HBW.out)
                | false =>
                  obtain ⟨f0', f1', f2', f3', f4'⟩ := hfacts rfl
                  have h64 : cv.size ≤ 64 := by
                    obtain ⟨v1, v2⟩ := val47_says f2'
                    by_cases kk : kind = 0
                    · have := (v1 kk).1
                      have := HFS.out.2.1 kk
                      omega
                    · exact v2 kk
                  have HN := hide (HSTEP.out f0' f1' ⟨(val47_says f2').1, h64⟩ f3')
                  have HN2 := hide (HNS.out f4')
                  clear hfacts f0' f1' f2' f3' f4'
                  go_wp2_with fail
                  exact ⟨⟨k + 1, cv, hlt2, by go_num, rfl, HN2.out, HN.out, bstep HB2Y.out HBW.out⟩, by simp [intOf]; omega⟩
            · have hke : k = chs.length := by dsimp only at hk; omega
              have HOK3 := hide (HOK2.out ⟨ChUpto.whole (s := ⟨kind, width, CA, cc, chs⟩) (by have := HUP.out; rw [hke] at this; exact this) HFS.out.1 HFS.out.2 f1, NormUpto.whole (by have := HNT.out.2; rw [hke] at this; exact this)⟩)
              clear hke
              go_wp2_with fail
              exact ⟨⟨j + 1, hlt, by go_num, HOK3.out, HBX.out⟩, by simp [intOf]; omega⟩
    · have hje : j = sigs.length := by omega
      have HSO := hide (show SmallOk ⟨A, cA, sigs, G, gs.length, cG, fin⟩ ∧ NormV ⟨A, cA, sigs, G, gs.length, cG, fin⟩ from ⟨⟨by dsimp only; omega, ⟨by dsimp only; omega, by dsimp only; omega⟩, by have := HOK.out; rw [hje, List.take_length] at this; exact fun s hs => (this s hs).1⟩, by have := HOK.out; rw [hje, List.take_length] at this; exact fun s hs => (this s hs).2⟩)
      have HC2 := hide (And.intro c0 (And.intro c1 c2))
      have HG2 := hide (HG.out.grow HBR.out)
      clear hje
      go_wp2_with fail
      go_loopw [8] (fun i wr => GpRel gs.length V i wr) (fun i _ => gs.length - (intOf i).toNat)
      case atStart => exact ⟨0, Nat.zero_le _, rfl, Below.refl _ _⟩
      case round =>
        obtain ⟨X, rfl⟩ : ∃ w2 : World, w2 = wr := ⟨_, rfl⟩
        obtain ⟨k, hk, rfl, hbr⟩ := hrel
        have HBX := hide (bstep HBR.out hbr)
        have HB2X := hide hbr
        have HGX := hide (HG2.out.grow hbr)
        obtain ⟨p0, p1, p2⟩ := HC2.out
        have c0 := cell_later hbr p0
        have c1 := cell_later hbr p1
        have c2 := cell_later hbr p2
        clear hbr p0 p1 p2
        by_cases hlt3 : k < gs.length
        · obtain ⟨gb, go, rfl, hP, hc⟩ := HGX.out.at_ hlt3
          have hprev : ∀ i, k = i + 1 → ∃ y : Int × Int, X.cell? ⟨gb, go + i * 2 + 1, none⟩ = some (.int .i64 y.2) := fun i e => by
            have hy : i < gs.length := by omega
            obtain ⟨gb', go', e', _, hc'⟩ := HGX.out.at_ hy
            injection e' with e'
            injection e' with e1 e2
            subst e1 e2
            exact ⟨_, hc' 1 (by omega)⟩
          generalize gs[k] = gg at *
          obtain ⟨gf, gt⟩ := gg
          simp only [cGp] at hc
          have s0 := hc 0 (by omega)
          have s1 := hc 1 (by omega)
          simp only [List.getElem?_cons_zero, List.getElem?_cons_succ, Nat.add_zero] at s0 s1
          clear hc
          obtain ⟨W3, hW3⟩ : ∃ W3, X.alloc (.cells #[.int .i64 gf, .int .i64 gt] 167) = W3 := ⟨_, rfl⟩
          have g3 : W3.heap[X.heap.size]? = some (.cells #[.int .i64 gf, .int .i64 gt] 167 (0, 0)) := by rw [← hW3]; exact heap_alloc_new X _
          have hb3 : Below X.heap.size X W3 := by rw [← hW3]; exact (Below.refl _ _).alloc (Nat.le_refl _) _
          go_upto_region 21 with (fail)
          obtain ⟨Y, hY⟩ : ∃ Y, X.heap.size = Y := ⟨_, rfl⟩
          rw [hY] at g3
          rw [hY]
          have c0 := cell_later hb3 c0
          have c1 := cell_later hb3 c1
          have c2 := cell_later hb3 c2
          have HPV := hide (fun i e => (hprev i e).imp fun y h => cell_later hb3 h)
          have HBY := hide (bstep HBX.out hb3)
          have HB2Y := hide (bstep HB2X.out hb3)
          clear hW3 s0 s1 hP hb3 hprev
          have e0 := cell_of_row W3 Y 0 _ _ (0, 0) g3
          have e1 := cell_of_row W3 Y 1 _ _ (0, 0) g3
          simp only [List.getElem?_toArray, List.getElem?_cons_zero, List.getElem?_cons_succ] at e0 e1
          clear g3 hY
          by_cases a0 : gf < 0
          · have T0 : decide (gf < 0) = true := decide_eq_true a0
            go_quiet (fail)
            go_wp2_with fail
            go_ret
            exact HF.out _ (below_drewN HBY.out _)
          have T0 : decide (gf < 0) = false := decide_eq_false a0
          by_cases a1 : gt ≤ gf
          · have T1 : decide (gt ≤ gf) = true := decide_eq_true a1
            go_quiet (fail)
            go_wp2_with fail
            go_ret
            exact HF.out _ (below_drewN HBY.out _)
          have T1 : decide (gt ≤ gf) = false := decide_eq_false a1
          by_cases a2 : fin + 1 < gt
          · have T2 : decide (fin + 1 < gt) = true := decide_eq_true a2
            go_quiet (fail)
            go_wp2_with fail
            go_ret
            exact HF.out _ (below_drewN HBY.out _)
          have T2 : decide (fin + 1 < gt) = false := decide_eq_false a2
          rcases Nat.eq_zero_or_pos k with rfl | hkp
          · clear HPV
            go_quiet (fail)
            go_wp2_with fail
            exact ⟨⟨0 + 1, by omega, by go_num, below_drewN HB2Y.out _⟩, by simp [intOf]; omega⟩
          · obtain ⟨i, rfl⟩ : ∃ i, k = i + 1 := ⟨k - 1, by omega⟩
            obtain ⟨y, yq⟩ := HPV.out i rfl
            obtain ⟨y0, y1⟩ := y
            dsimp only at yq
            have hi1 : (((i + 1 : Nat) : Int)) - 1 = (i : Int) := by omega
            have T3 : decide (0 < ((i + 1 : Nat) : Int)) = true := decide_eq_true (by omega)
            by_cases a3 : gf ≤ y1
            · have T4 : decide (gf ≤ y1) = true := decide_eq_true a3
              go_quiet (fail)
              go_wp2_with fail
              go_ret
              exact HF.out _ (below_drewN HBY.out _)
            have T4 : decide (gf ≤ y1) = false := decide_eq_false a3
            go_quiet (fail)
            go_wp2_with fail
            exact ⟨⟨i + 1 + 1, by omega, by go_num, below_drewN HB2Y.out _⟩, by simp [intOf]; omega⟩
        · go_wp2_with fail
          go_ret
          exact HE.out true _ HBX.out (fun _ => HSO.out)

theorem small_any (v : Wv) (gs : List (Int × Int)) (w : World) (hS : SigsAt w (Lo w.heap.size) v.A v.sigs) (hG : Row w (Lo w.heap.size) 2 cGp v.G gs) (hgn : v.gn = gs.length) (hsz : ∀ s ∈ v.sigs, ∀ c ∈ s.chs, c.val.size ≤ 9223372036854775807) :
    Calls Tryz.prog 50 #[.agg (cWv v).toArray] w (SmallPost v w) :=
  (small_norm v gs w hS hG hgn hsz).mono fun _ _ ⟨b, h1, h2, h3⟩ => ⟨b, h1, fun h => (h2 h).1, h3⟩

end Go.Proofs.YtaaplalfggofiaaGreatDoor
