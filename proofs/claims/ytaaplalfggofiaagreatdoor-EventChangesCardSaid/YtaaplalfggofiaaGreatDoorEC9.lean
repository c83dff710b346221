/-
  Several texts in one: RefRead. Each says at its head what it holds.
-/
import Derived.Test.YtaaplalfggofiaaGreatDoorEC8

/-
  wavestoreref03.Read, Parse, Valid.
-/
namespace Go.Proofs.YtaaplalfggofiaaGreatDoor
open Go.RowKit

def ReadP (l : List UInt8) (v : Value) : Prop := match readR l with
  | some r => v = .tuple #[pv r.neg (r.whole ++ r.frac) ((r.whole.length : Int) - 1 + expV 100000 r), .bool true]
  | none => ∃ (b : Bool) (ds : List UInt8) (f : Int), v = .tuple #[pv b ds f, .bool false]

theorem drop_eq_app {α : Type} {a b l : List α} (h : a ++ b = l) : l.drop a.length = b := by subst h; simp
/-- what stands at a place of a text -/
theorem dgs_place (s : ByteArray) (a : Nat) (ha : a ≤ s.size) : a + (dgs (s.data.toList.drop a)).length ≤ s.size ∧ s.extract a (a + (dgs (s.data.toList.drop a)).length) = bs (dgs (s.data.toList.drop a)) ∧ rst (s.data.toList.drop a) = s.data.toList.drop (a + (dgs (s.data.toList.drop a)).length) := by
  have h1 : dgs (s.data.toList.drop a) ++ rst (s.data.toList.drop a) = s.data.toList.drop a := List.takeWhile_append_dropWhile
  have h2 : (s.data.toList.drop a).length = s.size - a := by simp
  have h3 := congrArg List.length h1
  rw [List.length_append, h2] at h3
  refine ⟨by omega, ?_, ?_⟩
  · apply ByteArray.ext
    apply Array.toList_inj.1
    rw [ByteArray.data_extract, Array.toList_extract]
    show ((s.data.toList).extract a (a + (dgs (s.data.toList.drop a)).length)) = dgs (s.data.toList.drop a)
    rw [List.extract_eq_take_drop, show a + (dgs (s.data.toList.drop a)).length - a = (dgs (s.data.toList.drop a)).length by omega]
    exact List.prefix_iff_eq_take.1 ⟨_, h1⟩ |>.symm
  · rw [← List.drop_drop]
    exact (drop_eq_app h1).symm
theorem at_place (s : ByteArray) (a : Nat) (ha : a < s.size) : s.data.toList.drop a = s[a] :: s.data.toList.drop (a + 1) := by
  rw [List.drop_eq_getElem_cons (by simpa using ha)]; rfl
/-- the sign at the front, and what the program holds then -/
theorem sgn_place (s : ByteArray) : (s.size = 0 ∧ sgn1 s.data.toList = (false, [])) ∨ (∃ h : 0 < s.size, s[0] = 45 ∧ sgn1 s.data.toList = (true, s.data.toList.drop 1)) ∨ (∃ h : 0 < s.size, s[0] = 43 ∧ sgn1 s.data.toList = (false, s.data.toList.drop 1)) ∨
    (∃ h : 0 < s.size, s[0] ≠ 45 ∧ s[0] ≠ 43 ∧ sgn1 s.data.toList = (false, s.data.toList.drop 0)) := by
  by_cases hz : s.size = 0
  · left
    have : s.data.toList = [] := List.eq_nil_of_length_eq_zero (by simpa using hz)
    exact ⟨hz, by rw [this]; rfl⟩
  · right
    have hp : 0 < s.size := by omega
    have h0 := at_place s 0 hp
    rw [List.drop_zero] at h0
    have h1 : sgn1 s.data.toList = if s[0] = 45 then (true, s.data.toList.drop 1) else if s[0] = 43 then (false, s.data.toList.drop 1) else (false, s.data.toList.drop 0) := by
      rw [List.drop_zero]
      conv => lhs; rw [h0]
      rw [sgn1_cons, ← h0]
    by_cases a : s[0] = 45
    · exact .inl ⟨hp, a, by rw [h1, if_pos a]⟩
    · by_cases b : s[0] = 43
      · exact .inr (.inl ⟨hp, b, by rw [h1, if_neg a, if_pos b]⟩)
      · exact .inr (.inr ⟨hp, a, b, by rw [h1, if_neg a, if_neg b]⟩)

theorem readR_dgs {l : List UInt8} {neg : Bool} {r : List UInt8} (h : sgn1 l = (neg, r)) (hd : dgs r = []) : readR l = none := by unfold readR; rw [h]; simp [hd]
theorem readR_long {l : List UInt8} (h : 64 < l.length) : readR l = none := by unfold readR; rw [if_pos h]
theorem readR_frac {l : List UInt8} {neg : Bool} {r : List UInt8} (h : sgn1 l = (neg, r)) (hf : fracR (rst r) = none) : readR l = none := by unfold readR; rw [h]; simp [hf]
theorem readR_exp {l : List UInt8} {neg : Bool} {r fs l3 : List UInt8} (h : sgn1 l = (neg, r)) (hf : fracR (rst r) = some (fs, l3)) (he : expR l3 = none) : readR l = none := by unfold readR; rw [h]; simp [hf, he]
theorem readR_end {l : List UInt8} {neg : Bool} {r fs l3 : List UInt8} {dn : Bool} {es l4 : List UInt8} (hl : ¬64 < l.length) (h : sgn1 l = (neg, r)) (hd : dgs r ≠ []) (hf : fracR (rst r) = some (fs, l3)) (he : expR l3 = some (dn, es, l4)) :
    readR l = if l4 = [] then some ⟨neg, dgs r, fs, dn, es⟩ else none := by unfold readR; rw [if_neg hl, h]; simp only [if_neg hd, hf, he]
theorem sgn_at (s : ByteArray) (b : Nat) (hb : b ≤ s.size) : (b = s.size ∧ sgn1 (s.data.toList.drop b) = (false, s.data.toList.drop b)) ∨ (∃ h : b < s.size, s[b] = 45 ∧ sgn1 (s.data.toList.drop b) = (true, s.data.toList.drop (b + 1))) ∨ (∃ h : b < s.size, s[b] = 43 ∧ sgn1 (s.data.toList.drop b) = (false, s.data.toList.drop (b + 1))) ∨
    (∃ h : b < s.size, s[b] ≠ 45 ∧ s[b] ≠ 43 ∧ sgn1 (s.data.toList.drop b) = (false, s.data.toList.drop b)) := by
  by_cases hz : b = s.size
  · left
    have : s.data.toList.drop b = [] := List.drop_of_length_le (by simp; omega)
    exact ⟨hz, by rw [this]; rfl⟩
  · right
    have hp : b < s.size := by omega
    have h0 := at_place s b hp
    have h1 : sgn1 (s.data.toList.drop b) = if s[b] = 45 then (true, s.data.toList.drop (b + 1)) else if s[b] = 43 then (false, s.data.toList.drop (b + 1)) else (false, s.data.toList.drop b) := by
      conv => lhs; rw [h0]
      rw [sgn1_cons, ← h0]
    by_cases a : s[b] = 45
    · exact .inl ⟨hp, a, by rw [h1, if_pos a]⟩
    · by_cases c : s[b] = 43
      · exact .inr (.inl ⟨hp, c, by rw [h1, if_neg a, if_pos c]⟩)
      · exact .inr (.inr ⟨hp, a, c, by rw [h1, if_neg a, if_neg c]⟩)
theorem dgs_get (s : ByteArray) (e k : Nat) (hk : k < (dgs (s.data.toList.drop e)).length) (h : e + k < s.size) : (dgs (s.data.toList.drop e))[k]? = some s[e + k] ∧ 48 ≤ s[e + k].toNat ∧ s[e + k].toNat ≤ 57 := by
  have hp : dgs (s.data.toList.drop e) <+: s.data.toList.drop e := List.takeWhile_prefix _
  have h1 : (s.data.toList.drop e)[k]? = some s[e + k] := by
    rw [List.getElem?_drop, List.getElem?_eq_getElem (by simpa using h)]; rfl
  have h2 : (dgs (s.data.toList.drop e))[k]? = some s[e + k] := by
    obtain ⟨t, ht⟩ := hp
    rw [← ht, List.getElem?_append_left hk] at h1
    exact h1
  exact ⟨h2, dg_le (dgs_all _ _ (List.mem_of_getElem? h2))⟩
theorem clampE_le (C : Nat) (l : List UInt8) : clampE C l ≤ C := by
  rcases List.eq_nil_or_concat l with rfl | ⟨x, c, h⟩
  · exact Nat.zero_le _
  · rw [h, List.concat_eq_append, clampE_snoc]; exact Nat.min_le_left _ _
def ExRel (es : List UInt8) (ev iv : Value) : Prop := ∃ k : Nat, k ≤ es.length ∧ iv = .int .i64 (k : Int) ∧ ev = .int .i64 (clampE 100000 (es.take k) : Int)
/-- the two boxes of Read -/
structure RB (w : World) (neg : Bool) (ds : List UInt8) (f : Int) (W : World) : Prop where
  p : PB w (w.heap.size + 1) neg ds f W
  z : PB w w.heap.size false [] 0 W
theorem RB.step {w : World} {neg : Bool} {ds : List UInt8} {f : Int} {W W' : World} (h : RB w neg ds f W) (b : Below W.heap.size W W') : RB w neg ds f W' := ⟨h.p.step b, h.z.step b⟩
def RdA (s : ByteArray) (w : World) (at' : Value) (wx : World) : Prop := ∃ (a : Nat) (neg : Bool), a ≤ s.size ∧ at' = .int .i64 (a : Int) ∧ sgn1 s.data.toList = (neg, s.data.toList.drop a) ∧ RB w neg [] 0 wx
def RdB (s : ByteArray) (w : World) (neg : Bool) (a1 : Nat) (ds : List UInt8) (f : Int) (at' : Value) (wx : World) : Prop := ∃ (a : Nat) (fs : List UInt8), a ≤ s.size ∧ at' = .int .i64 (a : Int) ∧ fracR (s.data.toList.drop a1) = some (fs, s.data.toList.drop a) ∧ RB w neg (ds ++ fs) f wx
def RdC (s : ByteArray) (w : World) (neg : Bool) (a2 : Nat) (ds : List UInt8) (f : Int) (at' : Value) (wx : World) : Prop := ∃ (a : Nat) (dn : Bool) (es : List UInt8), a ≤ s.size ∧ at' = .int .i64 (a : Int) ∧ expR (s.data.toList.drop a2) = some (dn, es, s.data.toList.drop a) ∧ RB w neg ds (f + (if dn then -(clampE 100000 es : Int) else (clampE 100000 es : Int))) wx

set_option maxRecDepth 100000 in
set_option maxHeartbeats 8000000 in
theorem rread_any (s : ByteArray) (w : World) (hs : s.size ≤ 1000) : Calls Tryz.prog 226 #[.string s] w fun e w' => (∃ v, e = .returned v ∧ ReadP s.data.toList v) ∧ Below w.heap.size w w' := by
  go_enter Tryz.func226, Tryz.ntmps226
  go_upto_region 3 with (fail)
  obtain ⟨W0, hW0⟩ : ∃ W0 : World, ((w.alloc (.cells #[.bool false, .string ⟨#[]⟩, .int .i64 0] 299)).alloc (.cells #[.bool false, .string ⟨#[]⟩, .int .i64 0] 299)) = W0 := ⟨_, rfl⟩
  have p0 : RB w false [] 0 W0 := by
    have z0 : PB w w.heap.size false [] 0 W0 := by
      rw [← hW0]
      exact ⟨((Below.refl _ _).alloc (Nat.le_refl _) _).alloc (by simp) _, by rw [heap_alloc_old _ _ (by simp)]; exact heap_alloc_new w _⟩
    exact ⟨⟨z0.bel, by
      rw [← hW0]
      have := heap_alloc_new (w.alloc (.cells #[.bool false, .string ⟨#[]⟩, .int .i64 0] 299)) (.cells #[.bool false, .string ⟨#[]⟩, .int .i64 0] 299)
      rw [World.size_alloc] at this
      exact this⟩, z0⟩
  rw [hW0]
  clear hW0
  have P0 := hide p0
  obtain ⟨c0, c1, c2, f0, f1', f2⟩ := p0.p.at
  clear p0
  go_cut [23] (fun b wx => wx = W0 ∧ ((b = .bool true ∧ ∃ h : 0 < s.size, s[0] = 45 ∨ s[0] = 43) ∨ (b = .bool false ∧ sgn1 s.data.toList = (false, s.data.toList.drop 0))))
  case first => as_aux_lemma =>
    rcases sgn_place s with ⟨hz, hs1⟩ | ⟨h, ha, hs1⟩ | ⟨h, ha, hs1⟩ | ⟨h, ha, hb, hs1⟩
    · have S1 := hide hs1
      clear hs1
      go_wp2_with fail
      go_meet
      exact ⟨rfl, .inr ⟨rfl, by rw [S1.out, List.drop_zero, List.eq_nil_of_length_eq_zero (show s.data.toList.length = 0 by simpa using hz)]⟩⟩
    · have t0 : ((s[0].toNat : Int) == 43) = false := by rw [ha]; rfl
      have t1 : ((s[0].toNat : Int) == 45) = true := by rw [ha]; rfl
      have HA := hide ha
      clear hs1 ha
      go_wp2_with fail
      go_meet
      exact ⟨rfl, .inl ⟨rfl, h, .inl HA.out⟩⟩
    · have t0 : ((s[0].toNat : Int) == 43) = true := by rw [ha]; rfl
      have HA := hide ha
      clear hs1 ha
      go_wp2_with fail
      go_meet
      exact ⟨rfl, .inl ⟨rfl, h, .inr HA.out⟩⟩
    · have S1 := hide hs1
      have t0 : ((s[0].toNat : Int) == 43) = false := beq_eq_false_iff_ne.2 (fun e => hb (UInt8.toNat_inj.1 (by have : (43 : UInt8).toNat = 43 := rfl; omega)))
      have t1 : ((s[0].toNat : Int) == 45) = false := beq_eq_false_iff_ne.2 (fun e => ha (UInt8.toNat_inj.1 (by have : (45 : UInt8).toNat = 45 := rfl; omega)))
      clear hs1 ha hb
      go_wp2_with fail
      go_meet
      exact ⟨rfl, .inr ⟨rfl, S1.out⟩⟩
  case rest =>
    obtain ⟨rfl, hb⟩ := hcut
    have HB := hide hb
    clear hb
    go_upto_if 23 with (fail)
    go_cut [5] (fun at' wx => RdA s w at' wx)
    case first => as_aux_lemma =>
      rcases HB.out with ⟨rfl, h, hs1⟩ | ⟨rfl, hs1⟩
      · rcases sgn_place s with ⟨hz, _⟩ | ⟨h, ha, hs2⟩ | ⟨h, ha, hs2⟩ | ⟨h, ha, hb, _⟩
        · omega
        · have S1 := hide hs2
          have t1 : ((s[0].toNat : Int) == 45) = true := by rw [ha]; rfl
          clear hs1 hs2 ha HB
          go_wp2_with fail
          go_meet
          exact ⟨1, true, h, rfl, S1.out, P0.out.p.set0 (by omega) true, ⟨(P0.out.p.set0 (by omega) true).bel, box_set P0.out.z.box (by omega)⟩⟩
        · have S1 := hide hs2
          have t1 : ((s[0].toNat : Int) == 45) = false := by rw [ha]; rfl
          clear hs1 hs2 ha HB
          go_wp2_with fail
          go_meet
          exact ⟨1, false, h, rfl, S1.out, P0.out.p.set0 (by omega) false, ⟨(P0.out.p.set0 (by omega) false).bel, box_set P0.out.z.box (by omega)⟩⟩
        · exact absurd hs1 (by simp [ha, hb])
      · have S1 := hide hs1
        clear hs1 HB
        go_wp2_with fail
        go_meet
        exact ⟨0, false, Nat.zero_le _, rfl, S1.out, P0.out⟩
    case rest =>
      obtain ⟨a, neg, ha, rfl, hs1, rb⟩ := hcut
      have DG := hide (fun w => rdigits_any s a w hs ha)
      obtain ⟨d1, d2, d3⟩ := dgs_place s a ha
      have D3 := hide d3
      have S1 := hide hs1
      clear d3 hs1 c0 c1 c2 f0 f1' f2 P0 HB
      obtain ⟨c0, c1, c2, f0, f1', f2⟩ := rb.p.at
      obtain ⟨z0, z1, z2, g0, g1, g2⟩ := rb.z.at
      have R1 := hide rb
      clear rb
      generalize hW : dgs (s.data.toList.drop a) = whole at *
      have HW := hide hW
      clear hW
      go_upto_region 6 with (go_at_call 287; refine (DG.out _).mono ?_; rintro e w1 ⟨rfl, rfl⟩)
      by_cases hz : whole = []
      · as_aux_lemma =>
        have HR := hide (readR_dgs S1.out (by rw [HW.out]; exact hz))
        have hz' : whole.length = 0 := by rw [hz]; rfl
        clear hz
        go_wp2_with fail
        generalize hW9 : World.setCell _ _ _ = W9
        have p4 : PB w w.heap.size false [] 0 W9 := by
          rw [← hW9]
          exact ((R1.out.z.set0 (Nat.le_refl _) false).set1 (Nat.le_refl _) []).set2 (Nat.le_refl _) 0
        obtain ⟨x0, x1, x2, _, _, _⟩ := p4.at
        refine bodyPost_ret (v := .tuple #[.agg #[.bool false, .string (bs []), .int .i64 0], .bool false]) (by simp [results, Tryz.results226, go_sem, x0, x1, x2]) rfl ⟨⟨_, rfl, by unfold ReadP; rw [HR.out]; exact ⟨_, _, _, rfl⟩⟩, p4.bel⟩
      · by_cases h64 : 64 < s.size
        · as_aux_lemma =>
          have HR := hide (readR_long (l := s.data.toList) (by simpa using h64))
          have hz' : 0 < whole.length := List.length_pos_iff.2 hz
          go_wp2_with fail
          generalize hW9 : World.setCell _ _ _ = W9
          have p4 : PB w w.heap.size false [] 0 W9 := by
            rw [← hW9]
            exact ((R1.out.z.set0 (Nat.le_refl _) false).set1 (Nat.le_refl _) []).set2 (Nat.le_refl _) 0
          obtain ⟨x0, x1, x2, _, _, _⟩ := p4.at
          refine bodyPost_ret (v := .tuple #[.agg #[.bool false, .string (bs []), .int .i64 0], .bool false]) (by simp [results, Tryz.results226, go_sem, x0, x1, x2]) rfl ⟨⟨_, rfl, by unfold ReadP; rw [HR.out]; exact ⟨_, _, _, rfl⟩⟩, p4.bel⟩
        · have HZ := hide hz
          have hz' : 0 < whole.length := List.length_pos_iff.2 hz
          have tz : ((whole.length : Int) == 0) = false := beq_eq_false_iff_ne.2 (by omega)
          clear hz
          go_upto_region 9 with (fail)
          generalize hW9 : World.setCell _ _ _ = W2
          have r2 : RB w neg whole ((whole.length : Int) - 1) W2 := by
            rw [← hW9]
            exact ⟨(R1.out.p.set1 (by omega) whole).set2 (by omega) _, ⟨((R1.out.p.set1 (by omega) whole).set2 (by omega) _).bel, box_set (box_set R1.out.z.box (by omega)) (by omega)⟩⟩
          clear hW9 c0 c1 c2 f0 f1' f2 z0 z1 z2 g0 g1 g2 DG d2
          obtain ⟨c0, c1, c2, f0, f1', f2⟩ := r2.p.at
          obtain ⟨z0, z1, z2, g0, g1, g2⟩ := r2.z.at
          have R2 := hide r2
          clear r2 R1
          obtain ⟨a1, ha1⟩ : ∃ a1 : Nat, a1 = a + whole.length := ⟨_, rfl⟩
          have hc1 : (a : Int) + (whole.length : Int) = (a1 : Int) := by omega
          have h1s : a1 ≤ s.size := by omega
          have hwl : whole.length ≤ 64 := by omega
          rw [← ha1] at D3
          rw [hc1]
          clear hc1 ha1 d1
          go_cut [61] (fun b wx => wx = W2 ∧ ((b = .bool true ∧ ∃ h : a1 < s.size, s[a1] = 46) ∨ (b = .bool false ∧ fracR (s.data.toList.drop a1) = some ([], s.data.toList.drop a1))))
          case first => as_aux_lemma =>
            by_cases hlt : a1 < s.size
            · have HP := hide (at_place s a1 hlt)
              by_cases h46 : s[a1] = 46
              · have t1 : ((s[a1].toNat : Int) == 46) = true := by rw [h46]; rfl
                have HA := hide h46
                clear h46
                go_wp2_with fail
                go_meet
                exact ⟨rfl, .inl ⟨rfl, hlt, HA.out⟩⟩
              · have t1 : ((s[a1].toNat : Int) == 46) = false := beq_eq_false_iff_ne.2 (fun e => h46 (UInt8.toNat_inj.1 (by have : (46 : UInt8).toNat = 46 := rfl; omega)))
                have HA := hide h46
                clear h46
                go_wp2_with fail
                go_meet
                exact ⟨rfl, .inr ⟨rfl, by rw [HP.out, fracR_cons, if_neg HA.out]⟩⟩
            · have HE := hide (show s.data.toList.drop a1 = [] from List.drop_of_length_le (by simp; omega))
              go_wp2_with fail
              go_meet
              exact ⟨rfl, .inr ⟨rfl, by rw [HE.out]; rfl⟩⟩
          case rest =>
            obtain ⟨rfl, hb⟩ := hcut
            have HB := hide hb
            clear hb
            go_upto_if 61 with (fail)
            go_cut [5] (fun at' wx => RdB s w neg a1 whole ((whole.length : Int) - 1) at' wx)
            case first => as_aux_lemma =>
              rcases HB.out with ⟨rfl, h, h46⟩ | ⟨rfl, hf⟩
              · have HP := hide (show fracR (s.data.toList.drop a1) = if dgs (s.data.toList.drop (a1 + 1)) = [] then none else some (dgs (s.data.toList.drop (a1 + 1)), rst (s.data.toList.drop (a1 + 1))) by rw [at_place s a1 h, fracR_cons, if_pos h46])
                have hdg := fun w => rdigits_any s (a1 + 1) w hs h
                obtain ⟨d1, d2, d3⟩ := dgs_place s (a1 + 1) h
                have hcc : ((a1 + 1 : Nat) : Int) = (a1 : Int) + 1 := by omega
                rw [hcc] at hdg
                have DG := hide hdg
                have D3' := hide d3
                clear d3 hdg h46 HB hcc
                generalize hFr : dgs (s.data.toList.drop (a1 + 1)) = fr at *
                have HFr := hide hFr
                clear hFr
                go_upto_region 11 with (go_at_call 287; refine (DG.out _).mono ?_; rintro e w1 ⟨rfl, rfl⟩)
                by_cases hz2 : fr = []
                · have HR := hide (readR_frac S1.out (by rw [D3.out, HP.out, if_pos hz2]))
                  have hz3 : fr.length = 0 := by rw [hz2]; rfl
                  clear hz2
                  go_wp2_with fail
                  generalize hW9 : World.setCell _ _ _ = W9
                  have p4 : PB w w.heap.size false [] 0 W9 := by
                    rw [← hW9]
                    exact ((R2.out.z.set0 (Nat.le_refl _) false).set1 (Nat.le_refl _) []).set2 (Nat.le_refl _) 0
                  obtain ⟨x0, x1, x2, _, _, _⟩ := p4.at
                  refine bodyPost_ret (v := .tuple #[.agg #[.bool false, .string (bs []), .int .i64 0], .bool false]) (by simp [results, Tryz.results226, go_sem, x0, x1, x2]) rfl ⟨⟨_, rfl, by unfold ReadP; rw [HR.out]; exact ⟨_, _, _, rfl⟩⟩, p4.bel⟩
                · have hz3 : 0 < fr.length := List.length_pos_iff.2 hz2
                  have HP2 := hide (show fracR (s.data.toList.drop a1) = some (fr, rst (s.data.toList.drop (a1 + 1))) by rw [HP.out, if_neg hz2])
                  have hb1 : (bs whole).size ≤ 64 := by rw [bs_size]; exact hwl
                  have hb2 : (bs fr).size ≤ 1000 := by rw [bs_size]; omega
                  have BA := hide (bs_app whole fr)
                  have tz3 : ((fr.length : Int) == 0) = false := beq_eq_false_iff_ne.2 (by omega)
                  clear hz2
                  go_wp2_with fail
                  go_region
                  go_wp2_with fail
                  go_meet
                  have q1 := (R2.out.p.set1 (by omega) (whole ++ fr)).drewN 1
                  rw [← BA.out] at q1
                  exact ⟨a1 + 1 + fr.length, fr, d1, by go_num, by rw [HP2.out, D3'.out], q1, ⟨q1.bel, by
                    show (wc.setCell ⟨w.heap.size + 1, 1, none⟩ (.string (bs whole ++ bs fr))).heap[w.heap.size]? = _
                    exact box_set R2.out.z.box (by omega)⟩⟩
              · have HF := hide hf
                clear hf HB
                go_wp2_with fail
                go_meet
                exact ⟨a1, [], h1s, rfl, HF.out, by rw [List.append_nil]; exact R2.out⟩
            case rest =>
              obtain ⟨a2, fs, h2s, rfl, hf, rb3⟩ := hcut
              have FR := hide hf
              clear hf HB c0 c1 c2 f0 f1' f2 z0 z1 z2 g0 g1 g2 R2 h1s
              obtain ⟨c0, c1, c2, f0, f1', f2⟩ := rb3.p.at
              obtain ⟨z0, z1, z2, g0, g1, g2⟩ := rb3.z.at
              have R3 := hide rb3
              clear rb3
              go_upto_region 14 with (fail)
              go_cut [100] (fun b wx => wx = wc ∧ ((b = .bool true ∧ ∃ h : a2 < s.size, s[a2] = 101 ∨ s[a2] = 69) ∨ (b = .bool false ∧ expR (s.data.toList.drop a2) = some (false, [], s.data.toList.drop a2))))
              case first => as_aux_lemma =>
                by_cases hlt : a2 < s.size
                · have HP := hide (at_place s a2 hlt)
                  by_cases h1 : s[a2] = 101
                  · have t1 : ((s[a2].toNat : Int) == 101) = true := by rw [h1]; rfl
                    have HA := hide h1
                    clear h1
                    go_wp2_with fail
                    go_meet
                    exact ⟨rfl, .inl ⟨rfl, hlt, .inl HA.out⟩⟩
                  · have t1 : ((s[a2].toNat : Int) == 101) = false := beq_eq_false_iff_ne.2 (fun e => h1 (UInt8.toNat_inj.1 (by have : (101 : UInt8).toNat = 101 := rfl; omega)))
                    have HA := hide h1
                    clear h1
                    by_cases h2 : s[a2] = 69
                    · have t2 : ((s[a2].toNat : Int) == 69) = true := by rw [h2]; rfl
                      have HA2 := hide h2
                      clear h2
                      go_wp2_with fail
                      go_meet
                      exact ⟨rfl, .inl ⟨rfl, hlt, .inr HA2.out⟩⟩
                    · have t2 : ((s[a2].toNat : Int) == 69) = false := beq_eq_false_iff_ne.2 (fun e => h2 (UInt8.toNat_inj.1 (by have : (69 : UInt8).toNat = 69 := rfl; omega)))
                      have HA2 := hide h2
                      clear h2
                      go_wp2_with fail
                      go_meet
                      exact ⟨rfl, .inr ⟨rfl, by rw [HP.out, expR_cons, if_neg (fun e => e.elim HA.out HA2.out)]⟩⟩
                · have HE := hide (show s.data.toList.drop a2 = [] from List.drop_of_length_le (by simp; omega))
                  go_wp2_with fail
                  go_meet
                  exact ⟨rfl, .inr ⟨rfl, by rw [HE.out]; rfl⟩⟩
              case rest =>
                obtain ⟨hwe, hb⟩ := hcut
                subst hwe
                have HB := hide hb
                clear hb
                go_upto_if 100 with (fail)
                go_cut [5] (fun at' wx => RdC s w neg a2 (whole ++ fs) ((whole.length : Int) - 1) at' wx)
                case first => as_aux_lemma =>
                  rcases HB.out with ⟨rfl, h, hE⟩ | ⟨rfl, hf⟩
                  · obtain ⟨b, hbb⟩ : ∃ b : Nat, b = a2 + 1 := ⟨_, rfl⟩
                    have hcb : (a2 : Int) + 1 = (b : Int) := by omega
                    have hbs : b ≤ s.size := by omega
                    have HP := hide (show expR (s.data.toList.drop a2) = if dgs (sgn1 (s.data.toList.drop b)).2 = [] then none else some ((sgn1 (s.data.toList.drop b)).1, dgs (sgn1 (s.data.toList.drop b)).2, rst (sgn1 (s.data.toList.drop b)).2) by rw [at_place s a2 h, expR_cons, if_pos hE, hbb])
                    clear hE HB
                    have HCB := hide hcb
                    have HBB := hide hbb
                    have h2b : a2 < b := by omega
                    clear hcb hbb h
                    go_upto_region 16 with (fail)
                    rw [HCB.out]
                    rcases sgn_at s b hbs with ⟨hbe, hs2⟩ | ⟨hb2, hA, hs2⟩ | ⟨hb2, hA, hs2⟩ | ⟨hb2, hA, hA2, hs2⟩
                    case' inl =>
                      obtain ⟨e, he⟩ : ∃ e : Nat, e = b := ⟨_, rfl⟩
                      have HV := hide (show (b : Int) = (e : Int) by omega)
                      have hes : e ≤ s.size := by omega
                      have HSG := hide (show sgn1 (s.data.toList.drop b) = (false, s.data.toList.drop e) by rw [hs2, he])
                      clear hs2
                    case' inr.inl =>
                      obtain ⟨e, he⟩ : ∃ e : Nat, e = b + 1 := ⟨_, rfl⟩
                      have HV := hide (show (b : Int) + 1 = (e : Int) by omega)
                      have hes : e ≤ s.size := by omega
                      have HSG := hide (show sgn1 (s.data.toList.drop b) = (true, s.data.toList.drop e) by rw [hs2, he])
                      have t1 : ((s[b].toNat : Int) == 45) = true := by rw [hA]; rfl
                      have t2 : ((s[b].toNat : Int) == 43) = false := by rw [hA]; rfl
                      clear hA hs2
                    case' inr.inr.inl =>
                      obtain ⟨e, he⟩ : ∃ e : Nat, e = b + 1 := ⟨_, rfl⟩
                      have HV := hide (show (b : Int) + 1 = (e : Int) by omega)
                      have hes : e ≤ s.size := by omega
                      have HSG := hide (show sgn1 (s.data.toList.drop b) = (false, s.data.toList.drop e) by rw [hs2, he])
                      have t1 : ((s[b].toNat : Int) == 45) = false := by rw [hA]; rfl
                      have t2 : ((s[b].toNat : Int) == 43) = true := by rw [hA]; rfl
                      clear hA hs2
                    case' inr.inr.inr =>
                      obtain ⟨e, he⟩ : ∃ e : Nat, e = b := ⟨_, rfl⟩
                      have HV := hide (show (b : Int) = (e : Int) by omega)
                      have hes : e ≤ s.size := by omega
                      have HSG := hide (show sgn1 (s.data.toList.drop b) = (false, s.data.toList.drop e) by rw [hs2, he])
                      have t1 : ((s[b].toNat : Int) == 45) = false := beq_eq_false_iff_ne.2 (fun e => hA (UInt8.toNat_inj.1 (by have : (45 : UInt8).toNat = 45 := rfl; omega)))
                      have t2 : ((s[b].toNat : Int) == 43) = false := beq_eq_false_iff_ne.2 (fun e => hA2 (UInt8.toNat_inj.1 (by have : (43 : UInt8).toNat = 43 := rfl; omega)))
                      clear hA hA2 hs2
                    all_goals
                      have HEB := hide he
                      clear he
                      have DG := hide (fun w => rdigits_any s e w hs hes)
                      obtain ⟨d1, d2, d3⟩ := dgs_place s e hes
                      have D3' := hide d3
                      clear d3 d2
                      generalize hEs : dgs (s.data.toList.drop e) = es at *
                      have HEs := hide hEs
                      clear hEs
                      go_upto_region 19 with (fail)
                    all_goals as_aux_lemma =>
                      simp only [HV.out]
                      go_upto_region 20 with (go_at_call 287; refine (DG.out _).mono ?_; rintro e' w1 ⟨rfl, rfl⟩)
                      by_cases hz4 : es = []
                      · have HR := hide (readR_exp S1.out (by rw [D3.out]; exact FR.out) (by rw [HP.out, HSG.out, HEs.out, if_pos hz4]))
                        have hz5 : es.length = 0 := by rw [hz4]; rfl
                        clear hz4
                        go_wp2_with fail
                        generalize hW9 : World.setCell _ _ _ = W9
                        have p4 : PB w w.heap.size false [] 0 W9 := by
                          rw [← hW9]
                          exact ((R3.out.z.set0 (Nat.le_refl _) false).set1 (Nat.le_refl _) []).set2 (Nat.le_refl _) 0
                        obtain ⟨x0, x1, x2, _, _, _⟩ := p4.at
                        refine bodyPost_ret (v := .tuple #[.agg #[.bool false, .string (bs []), .int .i64 0], .bool false]) (by simp [results, Tryz.results226, go_sem, x0, x1, x2]) rfl ⟨⟨_, rfl, by unfold ReadP; rw [HR.out]; exact ⟨_, _, _, rfl⟩⟩, p4.bel⟩
                      · have HX := hide (show expR (s.data.toList.drop a2) = some ((sgn1 (s.data.toList.drop b)).1, es, rst (s.data.toList.drop e)) by rw [HP.out, HSG.out, HEs.out, if_neg hz4])
                        have hz5 : 0 < es.length := List.length_pos_iff.2 hz4
                        have tz5 : ((es.length : Int) == 0) = false := beq_eq_false_iff_ne.2 (by omega)
                        clear hz4
                        go_wp2_with fail
                        go_loop [8, 9] (fun ev iv => ExRel es ev iv) (fun _ iv => es.length - (intOf iv).toNat)
                        case atStart => exact ⟨0, Nat.zero_le _, rfl, rfl⟩
                        case round => as_aux_lemma =>
                          obtain ⟨k, hk, rfl, rfl⟩ := hrel
                          have hle := clampE_le 100000 (es.take k)
                          by_cases hkl : k < es.length
                          · have hek : e + k < s.size := by omega
                            have hg := dgs_get s e k (by rw [HEs.out]; exact hkl) hek
                            rw [HEs.out] at hg
                            obtain ⟨hg1, hg2, hg3⟩ := hg
                            have HT := hide (show clampE 100000 (es.take (k + 1)) = min 100000 (10 * clampE 100000 (es.take k) + dv s[e + k]) by
                              rw [List.take_add_one, hg1]; exact clampE_snoc _ _ _)
                            clear hg1
                            generalize clampE 100000 (es.take k) = E at *
                            go_wp2_with fail
                            refine ⟨⟨k + 1, by omega, by go_num, ?_⟩, by simp [intOf]; omega⟩
                            rw [HT.out]
                            exact congrArg (Value.int .i64) (by unfold dv; omega)
                          · have hke : k = es.length := by omega
                            subst hke
                            rw [List.take_length] at hle ⊢
                            generalize hEv : clampE 100000 es = E at *
                            have HEv := hide hEv
                            clear hEv
                            go_wp2_with fail
                            go_meet
                            first
                              | exact ⟨e + es.length, false, es, d1, by go_num, by rw [HX.out, D3'.out, HSG.out], by rw [HEv.out]; exact R3.out.p.set2 (by omega) _, ⟨(R3.out.p.set2 (by omega) _).bel, box_set R3.out.z.box (by omega)⟩⟩
                              | exact ⟨e + es.length, true, es, d1, by go_num, by rw [HX.out, D3'.out, HSG.out], by rw [HEv.out]; exact R3.out.p.set2 (by omega) _, ⟨(R3.out.p.set2 (by omega) _).bel, box_set R3.out.z.box (by omega)⟩⟩
                  · have HF := hide hf
                    clear hf HB
                    go_wp2_with fail
                    go_meet
                    exact ⟨a2, false, [], h2s, rfl, HF.out, by have := R3.out; simpa [clampE] using this⟩
                case rest =>
                  obtain ⟨a3, dn, es, h3s, rfl, hex, rb4⟩ := hcut
                  have EX := hide hex
                  generalize hf4 : ((whole.length : Int) - 1 + (if dn then -(clampE 100000 es : Int) else (clampE 100000 es : Int))) = f4 at rb4
                  have HF4 := hide hf4
                  clear hf4 hex HB c0 c1 c2 f0 f1' f2 z0 z1 z2 g0 g1 g2 R3
                  obtain ⟨c0, c1, c2, f0, f1', f2⟩ := rb4.p.at
                  obtain ⟨z0, z1, z2, g0, g1, g2⟩ := rb4.z.at
                  have R4 := hide rb4
                  clear rb4
                  have HR0 := hide (readR_end (by simpa using h64) S1.out (by rw [HW.out]; exact HZ.out) (by rw [D3.out]; exact FR.out) EX.out)
                  by_cases h3 : a3 = s.size
                  · as_aux_lemma =>
                    have HR := hide (show readR s.data.toList = some ⟨neg, whole, fs, dn, es⟩ by rw [HR0.out, HW.out, if_pos (List.drop_of_length_le (by simp; omega))])
                    have t3 : ((a3 : Int) == (s.size : Int)) = true := by rw [h3]; exact beq_self_eq_true _
                    clear h3
                    go_wp2_with fail
                    generalize hW9 : World.setCell _ _ _ = W9
                    have p4 : PB w w.heap.size neg (whole ++ fs) f4 W9 := by
                      rw [← hW9]
                      exact ((R4.out.z.set0 (Nat.le_refl _) neg).set1 (Nat.le_refl _) (whole ++ fs)).set2 (Nat.le_refl _) f4
                    obtain ⟨x0, x1, x2, _, _, _⟩ := p4.at
                    refine bodyPost_ret (v := .tuple #[.agg #[.bool neg, .string (bs (whole ++ fs)), .int .i64 f4], .bool true]) (by simp [results, Tryz.results226, go_sem, x0, x1, x2]) rfl ⟨⟨_, rfl, by unfold ReadP; rw [HR.out]; simp only []; unfold pv expV; rw [HF4.out]⟩, p4.bel⟩
                  · as_aux_lemma =>
                    have HR := hide (show readR s.data.toList = none by rw [HR0.out, if_neg (fun e => by have := congrArg List.length e; simp at this; omega)])
                    have t3 : ((a3 : Int) == (s.size : Int)) = false := beq_eq_false_iff_ne.2 (by omega)
                    clear h3
                    go_wp2_with fail
                    generalize hW9 : World.setCell _ _ _ = W9
                    have p4 : PB w w.heap.size neg (whole ++ fs) f4 W9 := by
                      rw [← hW9]
                      exact ((R4.out.z.set0 (Nat.le_refl _) neg).set1 (Nat.le_refl _) (whole ++ fs)).set2 (Nat.le_refl _) f4
                    obtain ⟨x0, x1, x2, _, _, _⟩ := p4.at
                    refine bodyPost_ret (v := .tuple #[.agg #[.bool neg, .string (bs (whole ++ fs)), .int .i64 f4], .bool false]) (by simp [results, Tryz.results226, go_sem, x0, x1, x2]) rfl ⟨⟨_, rfl, by unfold ReadP; rw [HR.out]; exact ⟨_, _, _, rfl⟩⟩, p4.bel⟩

end Go.Proofs.YtaaplalfggofiaaGreatDoor
