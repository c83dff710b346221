/-
  Several texts in one: Zip, Al3. Each says at its head what it holds.
-/
import Derived.Test.YtaaplalfggofiaaGreatDoorEC23
import Derived.Test.YtaaplalfggofiaaGreatDoorEC14
import Derived.Deep.RegionHeld3
import Derived.StillTailTactics
import Derived.Deep.RegionLaw
import Derived.Deep.DeepCutAuto
import Derived.Deep.QuietTactic
import Derived.BigQuiet
import Derived.IntWalk

/-
  runs.Zip: the rows of lists of spans.
-/
namespace Go.Proofs.YtaaplalfggofiaaGreatDoor
open Go.RowKit

structure MkIZ (n : Nat) (f : World → World) : Prop where
  ar : ∀ w, ArI (f w) w.heap.size (List.replicate n 0)
  bl : ∀ w, Below w.heap.size w (f w)
theorem mk_intsZ (n : Nat) (hn : n ≤ 1000000) : ∃ f : World → World, (∀ w, (Instr.makeSlice 57 (.int .i64 (n : Int)) (.int .i64 (n : Int))).run Tryz.prog w = .ok (.slice (some ⟨w.heap.size, 0, none⟩) n n) (f w)) ∧ MkIZ n f := by
  obtain ⟨i0, hi0, hz0, hz1, hz2⟩ := info_parts infoInt
  have key : ∀ w : World, ∃ w', (Instr.makeSlice 57 (.int .i64 (n : Int)) (.int .i64 (n : Int))).run Tryz.prog w = .ok (.slice (some ⟨w.heap.size, 0, none⟩) n n) w' ∧ ArI w' w.heap.size (List.replicate n 0) ∧ Below w.heap.size w w' := fun w => by
    obtain ⟨w1, h1, h2, h3⟩ := run_make_full (P := Tryz.prog) (w := w) w.heap.size 57 3 i0 _ 1 Tryz.underlying57 hi0 hz0 hz1 .i64 .i64 n (by rw [hz2]; omega) (by simp only [maxLen]; omega) (Nat.le_refl _)
    refine ⟨w1, h1, ArI.made (B := w.heap.size) ?_, (Below.refl _ _).grown h3 (Nat.le_refl _) (fun k e => by cases e)⟩
    rw [Nat.mul_one] at h2
    exact h2
  obtain ⟨f, hf⟩ := Classical.axiomOfChoice key
  exact ⟨f, fun w => (hf w).1, fun w => (hf w).2.1, fun w => (hf w).2.2⟩

def ZipPost (gs : List (Int → ByteArray)) (f t : Int) (w : World) (e : Ending) (w' : World) : Prop :=
  ∃ (A : Option Addr) (c : Nat) (rows : List RwM), e = .returned (.tuple #[.slice A rows.length c, .int .i64 0]) ∧ Cov gs f (t + 1) (rows.map RwM.rw) ∧ rows ≠ [] ∧ rows.length ≤ 4001 ∧ RwsAt w' (fun b => w.heap.size ≤ b ∧ b < w'.heap.size) A rows ∧ Below w.heap.size w w'
def ChkRel (n : Nat) (w : World) (i : Value) (wr : World) : Prop := ∃ j : Nat, j ≤ n ∧ i = .int .i64 (j : Int) ∧ Below w.heap.size w wr
def ZipRel (gs : List (Int → ByteArray)) (lsl : List (List Spn)) (f t : Int) (w : World) (G : Nat) (fr out : Value) (wr : World) : Prop :=
  ∃ (x pv : Int) (A : Option Addr) (c : Nat) (rows : List RwM), fr = .int .i64 x ∧ out = .slice A rows.length c ∧ f ≤ x ∧ x ≤ t + 1 ∧ pv ≤ x ∧ Cov gs f x (rows.map RwM.rw) ∧ rows.length ≤ 4001 ∧ (x ≤ t → rows.length ≤ cnt lsl x) ∧ ZM w G (lsl.map fun l => (idx l pv : Int)) A c rows wr

def ZinRel (lsl : List (List Spn)) (x pv t : Int) (V0 : World) (G : Nat) (i : Value) (wr : World) : Prop :=
  ∃ (j : Nat) (VA : Option Addr) (vc : Nat), j ≤ lsl.length ∧ i = .int .i64 (j : Int) ∧ ZR V0 G (((lsl.take j).map fun l => (idx l x : Int)) ++ ((lsl.drop j).map fun l => (idx l pv : Int))) x (endLs (lsl.take j) x t) VA vc ((lsl.take j).map (valL · x)) wr
def WhRel (l : List Spn) (pre post : List Int) (x pv e : Int) (V0 : World) (G : Nat) (VA : Option Addr) (vc : Nat) (vs : List ByteArray) (wr : World) : Prop :=
  ∃ k : Nat, idx l pv ≤ k ∧ k ≤ idx l x ∧ ZR V0 G (pre ++ (k : Int) :: post) x e VA vc vs wr
theorem row_froz {w : World} {N i : Nat} {cs : Array Value} {t : TypeId} (h : w.heap[N]? = some (.cells cs t (0, 0))) : w.frozen? ⟨N, i, none⟩ = false := by simp [World.frozen?, h]
theorem zeros {f t : Int} : ∀ {gs : List (Int → ByteArray)} {ls : List (List Spn)}, AllSp f t gs ls → ls.map (fun l => (idx l f : Int)) = List.replicate ls.length 0
  | [], [], _ => rfl
  | g :: gs, l :: ls, h => by
    rw [List.map_cons, zeros h.2, idx_first h.1]
    rfl
theorem set_mid {pre post : List Int} {k z : Int} {j : Nat} (h : pre.length = j) : (pre ++ k :: post).set j z = pre ++ z :: post := by
  rw [List.set_append_right _ _ (by omega), h, Nat.sub_self]
  rfl
theorem get_mid {pre post : List Int} {k : Int} {j : Nat} (h : pre.length = j) : (pre ++ k :: post)[j]? = some k := by
  rw [List.getElem?_append_right (by omega), h, Nat.sub_self]
  rfl

set_option maxRecDepth 100000 in
set_option maxHeartbeats 8000000 in
theorem zip_any (f t : Int) (gs : List (Int → ByteArray)) (LA : Option Addr) (lc : Nat) (ls : List SpL) (w : World) (hL : LsAt w (Lo w.heap.size) LA ls) (hne : ls ≠ []) (h8 : ls.length ≤ 1000) (hall : AllSp f t gs (ls.map SpL.l)) (hf : 0 ≤ f) (ht : t ≤ 1099511627776)
    (hlen : ∀ s ∈ ls, s.l.length ≤ 1000000) (hsum : ((ls.map SpL.l).map List.length).sum ≤ 4000) :
    Calls Tryz.prog 132 #[.slice LA ls.length lc] w (ZipPost gs f t w) := by
  obtain ⟨i0, hi0i, hz0i, hz1i, hz2i⟩ := info_parts infoStr
  obtain ⟨j0, hj0, hjz0, hjz1, hjz2⟩ := info_parts infoRw
  have hlp := List.length_pos_iff.2 hne
  have hsp : ∀ s ∈ ls, ∃ g, Spans g f t s.l := fun s hs => by
    obtain ⟨i, hi⟩ := List.getElem?_of_mem hs
    obtain ⟨g, _, h⟩ := hall.at (i := i) (l := s.l) (by rw [List.getElem?_map, hi]; rfl)
    exact ⟨g, h⟩
  obtain ⟨lb, lo, rfl, hl0⟩ := hL.list hlp
  obtain ⟨g0, hg0⟩ := hsp _ (List.getElem_mem hlp)
  obtain ⟨b0, o0, hA0, hP0, hF0, hT0, _⟩ := hL.ends (List.getElem_mem hlp) hg0
  have hn0 := List.length_pos_iff.2 hg0.ne
  have hn0l := hlen _ (List.getElem_mem hlp)
  unfold celSp at hl0
  rw [hA0] at hl0
  generalize hs0 : ls[0].c = c0 at *
  generalize hn0e : ls[0].l.length = n0 at *
  obtain ⟨m0, rfl⟩ : ∃ m0, n0 = m0 + 1 := ⟨n0 - 1, by omega⟩
  rw [Nat.add_sub_cancel] at hT0
  have hi0 : ((m0 + 1 : Nat) : Int) - 1 = (m0 : Int) := by omega
  have e05 : decide (0 < ls.length) = true := decide_eq_true hlp
  have T0 : ((ls.length : Int) == 0) = false := beq_eq_false_iff_ne.2 (by omega)
  have T1 : decide ((1024 : Int) < (ls.length : Int)) = false := decide_eq_false (by omega)
  have HL := hide hL
  have HSP := hide hsp
  have HALL := hide hall
  rw [Nat.add_zero] at hl0
  have HC0 := hide (And.intro hl0 (And.intro hF0 hT0))
  have hft : f ≤ t := hg0.le
  clear hL hsp hall hA0 hs0 hn0e hg0
  obtain ⟨fi, hmk, hmi⟩ := mk_intsZ ls.length (by omega)
  have HMI := hide hmi
  clear hmi
  go_enter Tryz.func132, Tryz.ntmps132
  go_upto_region 4 with (fail)
  go_loopw [23] (fun i wr => ChkRel ls.length w i wr) (fun i _ => ls.length - (intOf i).toNat)
  case atStart => exact ⟨0, Nat.zero_le _, rfl, Below.refl _ _⟩
  case round =>
    obtain ⟨j, hj, rfl, hbr⟩ := hrel
    have HBR := hide hbr
    by_cases hlt : j < ls.length
    · have hmem := List.getElem_mem hlt
      obtain ⟨g, hg⟩ := HSP.out _ hmem
      have hLr := HL.out.grow hbr
      obtain ⟨lb', lo', e, hlj⟩ := hLr.list hlt
      injection e with e
      injection e with e1 e2
      subst e1 e2
      obtain ⟨bj, oj, hA, hPj, hFj, hTj, _⟩ := hLr.ends hmem hg
      have hnj := List.length_pos_iff.2 hg.ne
      have hll := hlen _ hmem
      have HV := hide (fun (W : World) (hb : Below wr.heap.size wr W) => valid_sp g f t (some ⟨bj, oj, none⟩) ls[j].c ls[j].l W (by rw [← hA]; exact (hLr.each _ hmem).grow hb) hg hf ht hll)
      unfold celSp at hlj
      rw [hA] at hlj
      obtain ⟨q0, q1, q2⟩ := HC0.out
      have q0 := cell_later hbr q0
      have q1 := cell_later hbr q1
      have q2 := cell_later hbr q2
      clear hbr hLr hmem hg hA
      generalize hs1 : ls[j].c = cj at *
      generalize hn1e : ls[j].l.length = nj at *
      clear hs1 hn1e
      obtain ⟨mj, rfl⟩ : ∃ mj, nj = mj + 1 := ⟨nj - 1, by omega⟩
      rw [Nat.add_sub_cancel] at hTj
      have hij : ((mj + 1 : Nat) : Int) - 1 = (mj : Int) := by omega
      go_upto_region 6 with (fail)
      refine region_grown (W0 := wr) (by kernel_rfl) (by kernel_rfl) (Below.refl _ _) ?_
      repeat (go_big_quiet_step (first | exact fun _ => rfl | exact fun hw => ((HV.out _ hw).mono fun e w2 h => ⟨h.1, bstep hw h.2⟩) | exact fun hw => by (first | rw [cell_later hw q0] | rw [cell_later hw q1] | rw [cell_later hw q2] | rw [cell_later hw hFj] | rw [cell_later hw hTj]); exact ⟨rfl, rfl⟩))
      refine wpQuiet_nil ?_
      rintro _ ⟨⟨wx, hwx⟩, rfl⟩
      have HX := hide (bstep HBR.out hwx)
      go_wp2_with fail
      exact ⟨⟨j + 1, hlt, by go_num, HX.out⟩, by simp [intOf]; omega⟩
    · clear hj
      obtain ⟨q0, q1, q2⟩ := HC0.out
      have q0 := cell_later hbr q0
      have q1 := cell_later hbr q1
      have q2 := cell_later hbr q2
      clear hbr
      go_upto_region 9 with (fail)
      go_quiet (fail)
      obtain ⟨V, hV⟩ : ∃ V, wr.drewN nq = V := ⟨_, rfl⟩
      have hbV : Below w.heap.size w V := by rw [← hV]; exact below_drewN HBR.out nq
      rw [hV]
      clear hV q0 q1 q2 HBR
      obtain ⟨G, hG⟩ : ∃ G, V.heap.size = G := ⟨_, rfl⟩
      obtain ⟨W1, hW1⟩ : ∃ W1, fi V = W1 := ⟨_, rfl⟩
      have hbl1 := HMI.out.bl V
      have har1 := HMI.out.ar V
      rw [hW1] at hbl1 har1
      have hZ0 : ZM w G ((ls.map SpL.l).map fun l => (idx l f : Int)) none 0 [] W1 := by
        rw [zeros HALL.out, List.length_map]
        exact ⟨bstep hbV hbl1, by rw [← hG]; exact hbV.size, by rw [← hG]; exact har1, OwnRw.nil _ _, fun r hr => by cases hr⟩
      have HZ0 := hide hZ0
      clear hbl1 har1 hZ0 hbV
      go_upto_region 12 with (fail)
      try rw [hW1]
      try rw [hG]
      clear hW1 hG hmk HMI
      obtain ⟨lsl, hlsl⟩ : ∃ lsl, ls.map SpL.l = lsl := ⟨_, rfl⟩
      have hlen' : lsl.length = ls.length := by rw [← hlsl, List.length_map]
      rw [hlsl] at HZ0 HALL hsum
      go_loopw [6, 9] (fun fr out wr => ZipRel gs lsl f t w G fr out wr) (fun fr _ _ => (t + 1 - intOf fr).toNat)
      case atStart => exact ⟨f, f, none, 0, [], rfl, rfl, Int.le_refl _, by omega, Int.le_refl _, rfl, by simp, fun _ => Nat.zero_le _, HZ0.out⟩
      case round =>
        obtain ⟨V0, rfl⟩ : ∃ w2 : World, w2 = wr := ⟨_, rfl⟩
        obtain ⟨x, pv, A, c, rows, rfl, rfl, hfx, hxt, hpv, hcov, hr1, hr2, hz⟩ := hrel
        have HZ := hide hz
        have HCOV := hide hcov
        clear hz hcov HZ0
        by_cases hle : x ≤ t
        · have T2 : decide (x ≤ t) = true := decide_eq_true hle
          have hrow := row_at hfx hle t HALL.out hle (Int.le_refl t)
          have hcl := cnt_le x lsl
          have HROW := hide hrow
          obtain ⟨Wn, hWn⟩ : ∃ Wn, V0.alloc (.cells #[.int .i64 x, .int .i64 t, .slice none 0 0] 195) = Wn := ⟨_, rfl⟩
          have hR0 := ZR.start HZ.out (f := x) (e := t) (o := .cells #[.int .i64 x, .int .i64 t, .slice none 0 0] 195) rfl
          rw [hWn] at hR0
          have HR0 := hide hR0
          have hGl := HZ.out.ar.lt
          have HWN := hide hWn
          clear hrow hR0 hWn
          go_upto_region 15 with (fail)
          rw [HWN.out]
          clear HWN
          go_loopw [93] (fun i wq => ZinRel lsl x pv t V0 G i wq) (fun i _ => ls.length - (intOf i).toNat)
          case atStart => exact ⟨0, none, 0, Nat.zero_le _, rfl, by simpa [endLs] using HR0.out⟩
          case round =>
            obtain ⟨W, rfl⟩ : ∃ w2 : World, w2 = wr := ⟨_, rfl⟩
            obtain ⟨j, VA, vc, hj2, rfl, hR⟩ := hrel
            have HR := hide hR
            have hbw := (HZ.out.round hR).1.bel
            have HBW := hide hbw
            clear hR HR0
            by_cases hlt2 : j < ls.length
            · have hmem := List.getElem_mem hlt2
              obtain ⟨gj, hgj⟩ := HSP.out _ hmem
              have hLr := HL.out.grow hbw
              obtain ⟨lb', lo', e, hlj⟩ := hLr.list hlt2
              injection e with e
              injection e with e1 e2
              subst e1 e2
              obtain ⟨bj, oj, hA, hPj, -, -, hspj⟩ := HL.out.ends hmem hgj
              obtain ⟨xs, hxs1, hxs2, hxs3, hxs4, hxs5, hxs6⟩ := idx_at hgj hfx hle
              have hll := hlen _ hmem
              have hjl : lsl[j]? = some ls[j].l := by rw [← hlsl, List.getElem?_map, List.getElem?_eq_getElem hlt2]; rfl
              have hjl2 : j < lsl.length := by omega
              have hjl3 : lsl[j] = ls[j].l := by rw [List.getElem?_eq_getElem hjl2] at hjl; injection hjl
              unfold celSp at hlj
              rw [hA] at hlj
              clear hA hmem hLr hbw
              generalize ls[j].l = l at *
              generalize ls[j].c = cj at *
              have hixl : idx l x < l.length := (List.getElem?_eq_some_iff.1 hxs1).1
              have hdrop : lsl.drop j = l :: lsl.drop (j + 1) := by rw [List.drop_eq_getElem_cons hjl2, hjl3]
              have hpre : ((lsl.take j).map fun l => (idx l x : Int)).length = j := by simp; omega
              have HRW := hide (show ZR V0 G (((lsl.take j).map fun l => (idx l x : Int)) ++ ((idx l pv : Nat) : Int) :: ((lsl.drop (j + 1)).map fun l => (idx l pv : Int))) x (endLs (lsl.take j) x t) VA vc ((lsl.take j).map (valL · x)) W from by
                have := HR.out
                rw [hdrop, List.map_cons] at this
                exact this)
              have HVS := hide (show (lsl.take (j + 1)).map (valL · x) = (lsl.take j).map (valL · x) ++ [xs.v] by
                rw [List.take_succ_eq_append_getElem hjl2, List.map_append, hjl3]
                show _ ++ [valL l x] = _
                unfold valL
                rw [hxs1])
              have HEE := hide (show endLs (lsl.take (j + 1)) x t = min (endLs (lsl.take j) x t) xs.t by
                rw [List.take_succ_eq_append_getElem hjl2, endLs_snoc, hjl3]
                congr 1
                unfold endL
                rw [hxs1])
              have HAT := hide (show ((lsl.take (j + 1)).map fun l => (idx l x : Int)) = ((lsl.take j).map fun l => (idx l x : Int)) ++ [((idx l x : Nat) : Int)] by
                rw [List.take_succ_eq_append_getElem hjl2, List.map_append, hjl3]; rfl)
              have hvl : ((lsl.take j).map (valL · x)).length = j := by simp; omega
              have HVL := hide hvl
              clear hdrop HR hvl
              generalize hvsg : (lsl.take j).map (valL · x) = vs at *
              generalize heg : endLs (lsl.take j) x t = e0 at *
              generalize hpr : ((lsl.take j).map fun l => (idx l x : Int)) = pre at *
              generalize hpo : ((lsl.drop (j + 1)).map fun l => (idx l pv : Int)) = post at *
              go_upto_region 17 with (fail)
              go_loopw [] (fun wq => WhRel l pre post x pv e0 V0 G VA vc vs wq) (fun wq => l.length - (match wq.cell? ⟨G, j, none⟩ with | some v => (intOf v).toNat | none => 0))
              case atStart => exact ⟨idx l pv, Nat.le_refl _, idx_mono hpv l, HRW.out⟩
              case round =>
                obtain ⟨W2, rfl⟩ : ∃ w2 : World, w2 = wr := ⟨_, rfl⟩
                obtain ⟨k, hk1, hk2, hR2⟩ := hrel
                have hka := get_mid (k := (k : Int)) (post := post) hpre
                have cA := hR2.ar.cell hka
                have fA := hR2.ar.froz (k := j)
                have hkl : k < l.length := by omega
                have hxk : l[k]? = some l[k] := List.getElem?_eq_getElem hkl
                have hb2 := (HZ.out.round hR2).1.bel
                obtain ⟨s0, s1, s2⟩ := (hspj k _ hxk).stay (hb2.block bj hPj)
                have hstep := idx_step hk2 hxk
                generalize l[k] = xk at *
                have HR2 := hide hR2
                have hkj : ((j : Nat) : Int) < (ls.length : Int) := by omega
                have hkI : I64 (k : Int) := by unfold I64; omega
                by_cases hx : xk.t < x
                · have T3 : decide (xk.t < x) = true := decide_eq_true hx
                  have hk3 := hstep.1 hx
                  have HS := hide (show ZR V0 G (pre ++ ((k + 1 : Nat) : Int) :: post) x e0 VA vc vs (W2.setCell ⟨G, j, none⟩ (.int .i64 ((k : Int) + 1))) from by
                    have := HR2.out.setAt hGl j ((k : Int) + 1)
                    rw [set_mid hpre] at this
                    exact this)
                  clear hR2 hstep
                  go_wp2_with fail
                  have c2 := HS.out.ar.cell (get_mid (k := ((k + 1 : Nat) : Int)) (post := post) hpre)
                  exact ⟨⟨k + 1, by omega, hk3, HS.out⟩, by rw [c2, cA]; simp [intOf]; omega⟩
                · have T3 : decide (xk.t < x) = false := decide_eq_false hx
                  have hke : k = idx l x := by have := fun h => hx (hstep.2 h); omega
                  subst hke
                  have hbx := hR2.box
                  have n0 := cell_of_row W2 V0.heap.size 0 _ _ (0, 0) hbx
                  have n1 := cell_of_row W2 V0.heap.size 1 _ _ (0, 0) hbx
                  have n2 := cell_of_row W2 V0.heap.size 2 _ _ (0, 0) hbx
                  have n3 := fun i => row_froz (i := i) hbx
                  simp only [List.getElem?_toArray, List.getElem?_cons_zero, List.getElem?_cons_succ] at n0 n1 n2
                  clear hR2 hstep hbx
                  go_wp2_with fail
                  go_region
                  have hxe : xk = xs := by rw [hxk] at hxs1; injection hxs1
                  subst hxe
                  obtain ⟨W3, hW3⟩ : ∃ W3, (W2.setCell ⟨V0.heap.size, 1, none⟩ (.int .i64 (min e0 xk.t))).drew = W3 := ⟨_, rfl⟩
                  have hR3 : ZR V0 G (pre ++ ((idx l x : Nat) : Int) :: post) x (min e0 xk.t) VA vc vs W3 := by rw [← hW3]; exact (HR2.out.setTo hGl _).draw
                  rw [hW3]
                  clear n0 n1 n2 n3 cA fA s0 s1 s2 hW3 HR2
                  have hb3 := (HZ.out.round hR3).1.bel
                  obtain ⟨s0, s1, s2⟩ := (hspj _ _ hxk).stay (hb3.block bj hPj)
                  have cA := hR3.ar.cell hka
                  have hbx := hR3.box
                  have n2 := cell_of_row W3 V0.heap.size 2 _ _ (0, 0) hbx
                  have n3 := fun i => row_froz (i := i) hbx
                  simp only [List.getElem?_toArray, List.getElem?_cons_zero, List.getElem?_cons_succ] at n2
                  have HO3 := hide (World.ownsRow.drew (World.ownsRow.alloc hR3.own (.cells #[.string xk.v] 9)))
                  have HBX := hide (show (W3.alloc (.cells #[.string xk.v] 9)).drew.heap[W3.heap.size]? = some (.cells #[.string xk.v] 9) from heap_alloc_new W3 (.cells #[.string xk.v] 9))
                  have hN3 := box_lt hbx
                  have HR3 := hide hR3
                  rw [HVL.out] at n2 HO3
                  clear hR3 hbx hb3
                  go_wp2_with fail
                  go_region_law
                    (first
                      | (refine step_append_src rfl (.tmp 127) (.tmp 136) 71 rfl (V0.heap.size + 1) 9 i0 _ 1 16 Tryz.underlying71 hi0i hz0i hz1i hz2i rfl (by decide) (.slice VA j vc) j (vs.map Value.string) rfl HO3.out (some ⟨W3.heap.size, 0, none⟩) 1 1 [.string xk.v] rfl rfl (src_block (t := 9) (fr := (0, 0)) HBX.out) (str_one _) (by simp only [maxLen]; omega) (by omega) (by simp; omega) ?_
                         intro v' w5 hown5 hg5
                         obtain ⟨VA5, vc5, rfl, ho5⟩ := OwnStr.of_row (l := vs ++ [xk.v]) hown5 (by have := HVL.out; simp; omega) (by simp)
                         rw [ob_eq] at hg5
                         obtain ⟨hbx5, hR5⟩ := HR3.out.draw.push hGl (v := xk.v) (W1 := (W3.alloc (.cells #[.string xk.v] 9)).drew) rfl hg5 ho5
                         have q2 := cell_of_row w5 V0.heap.size 2 _ _ (0, 0) hbx5
                         have q3 := fun i => row_froz (i := i) hbx5
                         simp only [List.getElem?_toArray, List.getElem?_cons_zero, List.getElem?_cons_succ] at q2
                         have HR5 := hide hR5
                         have q4 := box_lt hbx5
                         clear hbx5 hR5 hown5 hg5 ho5)
                      | fail)
                  all_goals
                    have hR9 := HR5.out
                    rw [show (vs ++ [xk.v]).length = vs.length + 1 by simp] at hR9
                    have HR9 := hide hR9
                    clear hR9 HR5
                    go_wp2_with fail
                    refine ⟨⟨j + 1, VA5, vc5, by omega, by go_num, ?_⟩, by simp [intOf]; omega⟩
                    rw [HAT.out, HEE.out, HVS.out, hpo, List.append_assoc, List.singleton_append]
                    exact HR9.out
            · have hje : j = lsl.length := by omega
              have hR1 := HR.out
              rw [hje, List.take_length, List.drop_length, List.map_nil, List.append_nil] at hR1
              obtain ⟨hzr, hov, hno⟩ := HZ.out.round hR1
              have hrr := HROW.out
              have hbx := hR1.box
              have hobA : ∀ g, ob A = some g → g < V0.heap.size := fun g hg => (own_ob HZ.out.own g hg).2
              generalize hvs1 : lsl.map (valL · x) = vs1 at *
              generalize he1 : endLs lsl x t = e1 at *
              have HR := hide hrr
              have n0 := cell_of_row W V0.heap.size 0 _ _ (0, 0) hbx
              have n1 := cell_of_row W V0.heap.size 1 _ _ (0, 0) hbx
              have n2 := cell_of_row W V0.heap.size 2 _ _ (0, 0) hbx
              have hN := box_lt hbx
              have HBX := hide hbx
              simp only [List.getElem?_toArray, List.getElem?_cons_zero, List.getElem?_cons_succ] at n0 n1 n2
              have HZR := hide hzr
              have HOV := hide hov
              have HNO := hide hno
              have HOB := hide hobA
              have HOA := hide (World.ownsRow.alloc hzr.own (.cells #[.int .i64 x, .int .i64 e1, .slice VA vs1.length vc] 195))
              have HNW := hide (heap_alloc_new W (.cells #[.int .i64 x, .int .i64 e1, .slice VA vs1.length vc] 195))
              have hws := HBW.out.size
              obtain ⟨hre1, hre2⟩ : x ≤ e1 ∧ e1 ≤ t := ⟨hrr.1, hrr.2.1⟩
              have hcnt2 := hr2 hle
              clear hbx hzr hov hno hobA hR1 hrr
              go_wp2_with (at_builtin; (refine append_src rfl _ _ 109 rfl w.heap.size 195 j0 _ 3 40 Tryz.underlying109 hj0 hjz0 hjz1 hjz2 rfl (by decide) (.slice A rows.length c) rows.length (encRws rows) rfl HOA.out (some ⟨W.heap.size, 0, none⟩) 1 1 (encRw ⟨x, e1, VA, vc, vs1⟩) rfl rfl (src_block (t := 195) (fr := (0, 0)) HNW.out) (rw_one _) (by simp only [maxLen]; omega) (by omega) (by simp; omega) ?_); intro v' w3 hown3 hg3; obtain ⟨A3, c3, rfl, ho3⟩ := OwnRw.of_row (l := rows ++ [⟨x, e1, VA, vc, vs1⟩]) hown3 (by simp) (by rw [encRws_app]; rfl); rw [ob_eq] at hg3; have HP := hide (HZR.out.push (r := ⟨x, e1, VA, vc, vs1⟩) HOV.out HNO.out rfl hg3 ho3); have hbx3 := (hg3.block V0.heap.size (by simp; omega) (fun e => by have := HOB.out _ e.symm; omega)).trans ((Below.heap_alloc _ _ _ hN).trans HBX.out); have m1 := cell_of_row w3 V0.heap.size 1 _ _ (0, 0) hbx3; simp only [List.getElem?_toArray, List.getElem?_cons_zero, List.getElem?_cons_succ] at m1; have hm3 := box_lt hbx3; clear hown3 hg3 ho3 hbx3)
              refine ⟨⟨e1 + 1, x, A3, c3, rows ++ [⟨x, e1, VA, vc, vs1⟩], by go_num, by rw [List.length_append]; rfl, by omega, by omega, by omega, ?_, ?_, fun h => ?_, HP.out⟩, by simp [intOf]; omega⟩
              · rw [List.map_append]
                exact Cov.snoc (r := ⟨x, e1, vs1⟩) HCOV.out rfl HR.out.1 (fun u u1 u2 => HR.out.2.2.1 u u1 u2)
              · have : rows.length ≤ 4000 := by omega
                simp; omega
              · have h7 := HR.out.2.2.2
                rcases h7 with h7 | h7
                · omega
                · simp; omega
        · have T2 : decide (x ≤ t) = false := decide_eq_false hle
          have hxe : x = t + 1 := by omega
          have hne2 : rows ≠ [] := fun e => by
            have := HCOV.out
            rw [e] at this
            have h9 : f = x := this
            omega
          have HP := hide (show ZipPost gs f t w (.returned (.tuple #[.slice A rows.length c, .int .i64 0])) V0 from ⟨A, c, rows, rfl, by rw [← hxe]; exact HCOV.out, hne2, hr1, ⟨HZ.out.own.row, fun r hr => (HZ.out.vals r hr).strs.more fun b h => ⟨h.1, h.2.1⟩⟩, HZ.out.bel⟩)
          clear hxe hne2
          go_wp2_with fail
          go_ret2
          exact HP.out

end Go.Proofs.YtaaplalfggofiaaGreatDoor

/-
  Three new blocks.
-/
namespace Go.Proofs.YtaaplalfggofiaaGreatDoor
open Go.RowKit

theorem chain3 (w1 : World) (a b c : Obj) {V : World} (hV : ((w1.alloc a).alloc b).alloc c = V) : V.heap[w1.heap.size]? = some a ∧ V.heap[w1.heap.size + 1]? = some b ∧ V.heap[w1.heap.size + 1 + 1]? = some c ∧ Below w1.heap.size w1 V ∧ V.heap.size = w1.heap.size + 1 + 1 + 1 := by
  have e1 := heap_alloc_new (w1.alloc a) b
  have e2 := heap_alloc_new ((w1.alloc a).alloc b) c
  have s1 : (w1.alloc a).heap.size = w1.heap.size + 1 := by simp
  have s2 : ((w1.alloc a).alloc b).heap.size = w1.heap.size + 1 + 1 := by simp
  rw [s1] at e1
  rw [s2] at e2
  subst hV
  refine ⟨box_alloc (box_alloc (heap_alloc_new w1 a)), box_alloc e1, e2, ?_, by simp⟩
  exact (((Below.refl _ _).alloc (Nat.le_refl _) _).alloc (by omega) _).alloc (by omega) _

end Go.Proofs.YtaaplalfggofiaaGreatDoor
