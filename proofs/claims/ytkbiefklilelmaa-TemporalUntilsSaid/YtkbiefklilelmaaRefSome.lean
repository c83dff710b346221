/-
  wavestoreref52.Some: the greatest or least result of a window, at each time.
-/
import Derived.Test.YtkbiefklilelmaaRefTemp
namespace Go.Proofs.Ytkbiefklilelmaa
open Go.RowKit Go.Joins

/-- the greatest (or least) of n results from p on -/
def winV (all : Bool) (x : List Int) (p : Nat) : Nat → Int
  | 0 => if all = true then 2 else 0
  | n + 1 => if all = true then min (winV all x p n) (x.getD (p + n) 0) else max (winV all x p n) (x.getD (p + n) 0)
/-- the window of the time t: its beginning, and how many times it has -/
def wLo (a t : Int) : Int := max 0 (t + a)
def wHi (b : Int) (len : Nat) (t : Int) : Int := min ((len : Int) - 1) (t + b)
def wLen (a b : Int) (len : Nat) (t : Int) : Nat := (wHi b len t + 1 - wLo a t).toNat
def someL (all : Bool) (x : List Int) (a b : Int) (k : Nat) : List Int := (List.range k).map fun (t : Nat) => winV all x (wLo a t).toNat (wLen a b x.length t)
theorem someL_succ (all : Bool) (x : List Int) (a b : Int) (k : Nat) : someL all x a b (k + 1) = someL all x a b k ++ [winV all x (wLo a k).toNat (wLen a b x.length k)] := by simp [someL, List.range_succ]
theorem someL_len (all : Bool) (x : List Int) (a b : Int) (k : Nat) : (someL all x a b k).length = k := by simp [someL]

def RSomeRel (w : World) (all : Bool) (x : List Int) (a b : Int) (out t : Value) (wr : World) : Prop :=
  ∃ (k : Nat) (A : Option Addr) (c : Nat), k ≤ x.length ∧ t = .int .i64 k ∧ out = .slice A k c ∧ OwnInt wr w.heap.size A c (someL all x a b k) ∧ Below w.heap.size w wr
def RSomeIn (wo : World) (all : Bool) (x : List Int) (p q : Int) (r u : Value) (wr : World) : Prop :=
  ∃ n : Nat, (n : Int) ≤ max 0 (q + 1 - p) ∧ u = .int .i64 (p + n) ∧ r = .int .i64 (winV all x p.toNat n) ∧ wr = wo

theorem winV_step (all : Bool) (x : List Int) (p n : Nat) : winV all x p (n + 1) = if all = true then min (winV all x p n) (x.getD (p + n) 0) else max (winV all x p n) (x.getD (p + n) 0) := rfl

set_option maxRecDepth 100000 in
set_option maxHeartbeats 4000000 in
theorem rsome_false (A : Option Addr) (c : Nat) (x : List Int) (a b : Int) (w : World) (hx : IntsAt w w.heap.size A x) (hl : x.length ≤ 65) (h1 : -1099511627776 ≤ a) (h2 : a ≤ b) (h3 : b ≤ 1099511627776) :
    Calls Try.prog 44 #[.slice A x.length c, .int .i64 a, .int .i64 b, .bool false] w (RetInts w fun ps => ps = someL false x a b x.length) := by
  go_enter Try.func44, Try.ntmps44
  go_wp2_with fail
  go_loopw [9, 10] (fun out t wr => RSomeRel w false x a b out t wr) (fun _ t _ => x.length - (intOf t).toNat)
  case atStart => exact ⟨0, some ⟨w.heap.size, 0, none⟩, 0, by omega, by simp, rfl, OwnInt.empty _ _ (Nat.le_refl _), (Below.refl _ _).alloc (Nat.le_refl _) _⟩
  case round =>
    obtain ⟨k, A2, c2, hk, rfl, rfl, hown, hb⟩ := hrel
    by_cases hlt : k < x.length
    · obtain ⟨wo, rfl⟩ : ∃ wo : World, wo = wr := ⟨_, rfl⟩
      have HS := hide (someL_succ false x a b k)
      have HLM := hide (someL_len false x a b k)
      have hx' := hx.below hb
      have hxl : (x.length : Int) ≤ 65 := by omega
      go_wp2_with fail
      refine (window_any k a b _ _ (by omega) (by omega) (by omega) (by omega) (by omega) (by omega)).mono ?_
      rintro e w' ⟨rfl, rfl⟩
      have hp0 : 0 ≤ wLo a k := by unfold wLo; omega
      have hp1 : wLo a k ≤ 1099511628000 := by unfold wLo; omega
      have hq0 : wHi b x.length k ≤ (x.length : Int) - 1 := by unfold wHi; omega
      have hq1 : -1099511628000 ≤ wHi b x.length k := by unfold wHi; omega
      have HW := hide (show wLen a b x.length k = (wHi b x.length k + 1 - wLo a k).toNat from rfl)
      rw [show max 0 ((k : Int) + a) = wLo a k from rfl, show min ((x.length : Int) - 1) ((k : Int) + b) = wHi b x.length k from rfl]
      generalize wLo a k = p at *
      generalize wHi b x.length k = q at *
      go_wp2_with fail
      go_loopw [11, 14] (fun r u wr => RSomeIn wo false x p q r u wr) (fun _ u _ => (q + 1 - intOf u).toNat)
      case atStart => exact ⟨0, by omega, by simp, by rfl, rfl⟩
      case round =>
        obtain ⟨n, hn, rfl, rfl, rfl⟩ := hrel
        by_cases hle : p + n ≤ q
        · obtain ⟨m, hm⟩ : ∃ m : Nat, p + n = m := ⟨(p + n).toNat, by omega⟩
          have hml : m < x.length := by omega
          obtain ⟨bb, off, hAe, hbb, hc1⟩ := hx'.at_ hml
          subst hAe
          have HV := hide (winV_step false x p.toNat n)
          have HG := hide (show x.getD (p.toNat + n) 0 = x[m] by rw [show p.toNat + n = m by omega]; simp [hml])
          generalize winV false x p.toNat n = r0 at *
          have HM := hide hm
          rw [hm]
          have hmq : (m : Int) ≤ q := by omega
          have hm65 : m < 65 := by omega
          clear hm hle hn
          generalize x[m] = xm at *
          go_wp2_with fail
          go_roundw
          case rel =>
            have := HM.out
            refine ⟨n + 1, by omega, by congr 1; omega, ?_, rfl⟩
            rw [HV.out, HG.out]
            rfl
          case measure => have := HM.out; simp [intOf]; omega
        · have hn' : n = wLen a b x.length k := by rw [HW.out]; omega
          have HN := hide hn'
          have hown' := hown
          generalize hms : someL false x a b k = ms at *
          have HMS := hide hms
          clear hn' hms hown
          have hlm : k = ms.length := HLM.out.symm
          have HLM' := hide hlm
          have hle2 : ms.length ≤ 65 := by omega
          clear hlm
          go_wp2_with (at_builtin; (refine append_int1 rfl _ _ rfl w.heap.size A2 c2 ms k rfl HLM'.out _ _ rfl _ rfl (by simp) hown' (by omega) hb.size ?_)
                       intro g' c' w5 hown5 hg' hgrow hrow)
          go_roundw
          case rel =>
            refine ⟨k + 1, some ⟨g', 0, none⟩, c', by omega, by go_num, rfl, ?_, ?_⟩
            · rw [HS.out, ← HN.out]; exact hown5
            · exact (hb.alloc hb.size _).grown hgrow (by have := hb.size; simp; omega) hrow
          case measure => simp [intOf]; omega
    · have hke : k = x.length := by omega
      subst hke
      go_wp2_with fail
      go_ret
      refine ⟨A2, c2, someL false x a b x.length, by rw [someL_len]; rfl, hown, hb, rfl⟩

set_option maxRecDepth 100000 in
set_option maxHeartbeats 4000000 in
theorem rsome_true (A : Option Addr) (c : Nat) (x : List Int) (a b : Int) (w : World) (hx : IntsAt w w.heap.size A x) (hl : x.length ≤ 65) (h1 : -1099511627776 ≤ a) (h2 : a ≤ b) (h3 : b ≤ 1099511627776) :
    Calls Try.prog 44 #[.slice A x.length c, .int .i64 a, .int .i64 b, .bool true] w (RetInts w fun ps => ps = someL true x a b x.length) := by
  go_enter Try.func44, Try.ntmps44
  go_wp2_with fail
  go_loopw [9, 10] (fun out t wr => RSomeRel w true x a b out t wr) (fun _ t _ => x.length - (intOf t).toNat)
  case atStart => exact ⟨0, some ⟨w.heap.size, 0, none⟩, 0, by omega, by simp, rfl, OwnInt.empty _ _ (Nat.le_refl _), (Below.refl _ _).alloc (Nat.le_refl _) _⟩
  case round =>
    obtain ⟨k, A2, c2, hk, rfl, rfl, hown, hb⟩ := hrel
    by_cases hlt : k < x.length
    · obtain ⟨wo, rfl⟩ : ∃ wo : World, wo = wr := ⟨_, rfl⟩
      have HS := hide (someL_succ true x a b k)
      have HLM := hide (someL_len true x a b k)
      have hx' := hx.below hb
      have hxl : (x.length : Int) ≤ 65 := by omega
      go_wp2_with fail
      refine (window_any k a b _ _ (by omega) (by omega) (by omega) (by omega) (by omega) (by omega)).mono ?_
      rintro e w' ⟨rfl, rfl⟩
      have hp0 : 0 ≤ wLo a k := by unfold wLo; omega
      have hp1 : wLo a k ≤ 1099511628000 := by unfold wLo; omega
      have hq0 : wHi b x.length k ≤ (x.length : Int) - 1 := by unfold wHi; omega
      have hq1 : -1099511628000 ≤ wHi b x.length k := by unfold wHi; omega
      have HW := hide (show wLen a b x.length k = (wHi b x.length k + 1 - wLo a k).toNat from rfl)
      rw [show max 0 ((k : Int) + a) = wLo a k from rfl, show min ((x.length : Int) - 1) ((k : Int) + b) = wHi b x.length k from rfl]
      generalize wLo a k = p at *
      generalize wHi b x.length k = q at *
      go_wp2_with fail
      go_loopw [11, 14] (fun r u wr => RSomeIn wo true x p q r u wr) (fun _ u _ => (q + 1 - intOf u).toNat)
      case atStart => exact ⟨0, by omega, by simp, by rfl, rfl⟩
      case round =>
        obtain ⟨n, hn, rfl, rfl, rfl⟩ := hrel
        by_cases hle : p + n ≤ q
        · obtain ⟨m, hm⟩ : ∃ m : Nat, p + n = m := ⟨(p + n).toNat, by omega⟩
          have hml : m < x.length := by omega
          obtain ⟨bb, off, hAe, hbb, hc1⟩ := hx'.at_ hml
          subst hAe
          have HV := hide (winV_step true x p.toNat n)
          have HG := hide (show x.getD (p.toNat + n) 0 = x[m] by rw [show p.toNat + n = m by omega]; simp [hml])
          generalize winV true x p.toNat n = r0 at *
          have HM := hide hm
          rw [hm]
          have hmq : (m : Int) ≤ q := by omega
          have hm65 : m < 65 := by omega
          clear hm hle hn
          generalize x[m] = xm at *
          go_wp2_with fail
          go_roundw
          case rel =>
            have := HM.out
            refine ⟨n + 1, by omega, by congr 1; omega, ?_, rfl⟩
            rw [HV.out, HG.out]
            rfl
          case measure => have := HM.out; simp [intOf]; omega
        · have hn' : n = wLen a b x.length k := by rw [HW.out]; omega
          have HN := hide hn'
          have hown' := hown
          generalize hms : someL true x a b k = ms at *
          have HMS := hide hms
          clear hn' hms hown
          have hlm : k = ms.length := HLM.out.symm
          have HLM' := hide hlm
          have hle2 : ms.length ≤ 65 := by omega
          clear hlm
          go_wp2_with (at_builtin; (refine append_int1 rfl _ _ rfl w.heap.size A2 c2 ms k rfl HLM'.out _ _ rfl _ rfl (by simp) hown' (by omega) hb.size ?_)
                       intro g' c' w5 hown5 hg' hgrow hrow)
          go_roundw
          case rel =>
            refine ⟨k + 1, some ⟨g', 0, none⟩, c', by omega, by go_num, rfl, ?_, ?_⟩
            · rw [HS.out, ← HN.out]; exact hown5
            · exact (hb.alloc hb.size _).grown hgrow (by have := hb.size; simp; omega) hrow
          case measure => simp [intOf]; omega
    · have hke : k = x.length := by omega
      subst hke
      go_wp2_with fail
      go_ret
      refine ⟨A2, c2, someL true x a b x.length, by rw [someL_len]; rfl, hown, hb, rfl⟩

end Go.Proofs.Ytkbiefklilelmaa
