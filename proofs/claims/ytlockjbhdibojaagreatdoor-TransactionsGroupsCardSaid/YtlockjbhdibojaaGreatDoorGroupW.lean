/-
  transactions.Group: its walk.
-/
import Derived.Test.YtlockjbhdibojaaGreatDoorGroup
namespace Go.Proofs.YtlockjbhdibojaaGreatDoor
open Go.RowKit

def tcont (t : Rt) : List Bt × Bool := (t.bs.map Rb.bt, t.done)
/-- what a function returns that makes the transactions of beats -/
def RetTs (w : World) (bs : List Bt) (e : Ending) (w' : World) : Prop :=
  ∃ (A : Option Addr) (c : Nat) (ts : List Rt), e = .returned (.slice A ts.length c) ∧ TransAt w' (Lo w'.heap.size) A ts ∧ Below w.heap.size w w' ∧ ts.map tcont = groupL bs

def GrpRel (w : World) (bs : List Rb) (out i : Value) (wr : World) : Prop :=
  ∃ (k : Nat) (P : Nat → Prop) (A1 : Option Addr) (c1 : Nat) (rs : List Rb) (A2 : Option Addr) (c2 : Nat) (ts : List Rt), k ≤ bs.length ∧ i = .int .i64 k ∧ out = .slice A2 ts.length c2 ∧ GrpAt w wr w.heap.size P A1 c1 rs A2 c2 ts ∧ rs.length ≤ k ∧ ts.length ≤ k ∧
    (ts.map tcont, rs.map Rb.bt) = grp ((bs.map Rb.bt).take k) ([], [])

theorem grp_start (w : World) : GrpAt w (w.alloc (.cells #[.slice none 0 0, .bool false] 35)) w.heap.size (Lo w.heap.size) none 0 [] none 0 [] :=
  ⟨heap_alloc_new w _, Nat.le_refl _, World.ownsRow_nil _ _ _ 4, World.ownsRow_nil _ _ _ 2, (fun h => by cases h), (fun h => by cases h), (fun _ h => by cases h), Nat.lt_irrefl _, (fun _ h => by cases h), (fun _ h => by cases h), (fun b hb => by unfold Lo at hb; simp; omega), fun b hb => hb, (fun _ h => by cases h), (fun _ h => by cases h), (Below.refl _ _).alloc (Nat.le_refl _) _⟩

theorem encBs_snoc (rs : List Rb) (r : Rb) : encBs (rs ++ [r]) = encBs rs ++ encB r := by simp [encBs]
theorem encTs_snoc (ts : List Rt) (t : Rt) : encTs (ts ++ [t]) = encTs ts ++ encT t := by simp [encTs]
theorem ownB_of {w : World} {base g c : Nat} {rs : List Rb} {r : Rb} (h : w.ownsRow base 27 4 (.slice (some ⟨g, 0, none⟩) (rs.length + 1) c) (rs.length + 1) (encBs rs ++ encB r)) : OwnB w base (some ⟨g, 0, none⟩) c (rs ++ [r]) := by
  unfold OwnB; rw [encBs_snoc, List.length_append]; exact h
theorem ownT_of {w : World} {base g c : Nat} {ts : List Rt} {t : Rt} (h : w.ownsRow base 35 2 (.slice (some ⟨g, 0, none⟩) (ts.length + 1) c) (ts.length + 1) (encTs ts ++ encT t)) : OwnT w base (some ⟨g, 0, none⟩) c (ts ++ [t]) := by
  unfold OwnT; rw [encTs_snoc, List.length_append]; exact h

/-- the beat's box behind the clone of its values -/
theorem beat_box {w wr w2 W3 : World} {P : Nat → Prop} {A1 A2 : Option Addr} {c1 c2 : Nat} {rs : List Rb} {ts : List Rt} {a b u v d : Value} (h : GrpAt w wr w.heap.size P A1 c1 rs A2 c2 ts)
    (b2 : Below (wr.alloc (.cells #[a, b, u, d] 27)).heap.size (wr.alloc (.cells #[a, b, u, d] 27)) w2) (hW : w2.setCell ⟨wr.heap.size, 2, none⟩ v = W3) :
    W3.heap[wr.heap.size]? = some (.cells #[a, b, v, d] 27 (0, 0)) ∧ W3.heap.size = w2.heap.size ∧
    GrpAt w W3 w.heap.size (fun k => P k ∨ ((wr.alloc (.cells #[a, b, u, d] 27)).heap.size ≤ k ∧ k < w2.heap.size)) A1 c1 rs A2 c2 ts ∧ (∀ V vs, StrsAt w2 (fun k => (wr.alloc (.cells #[a, b, u, d] 27)).heap.size ≤ k ∧ k < w2.heap.size) V vs → StrsAt W3 (fun k => P k ∨ ((wr.alloc (.cells #[a, b, u, d] 27)).heap.size ≤ k ∧ k < w2.heap.size)) V vs) := by
  subst hW
  have g2 := box_below b2 (heap_alloc_new wr (.cells #[a, b, u, d] 27))
  have hp : ¬ (P wr.heap.size ∨ ((wr.alloc (.cells #[a, b, u, d] 27)).heap.size ≤ wr.heap.size ∧ wr.heap.size < w2.heap.size)) := by
    rintro (h1 | h1)
    · exact Nat.lt_irrefl _ (h.pl _ h1)
    · have := h1.1; simp at this; omega
  refine ⟨by simp [World.setCell, Array.getElem?_modify, g2], by simp, ((h.alloc _).below b2).set v h.lt hp (fun e => Nat.lt_irrefl _ (own_ob h.o1 _ e).2) (fun e => Nat.lt_irrefl _ (own_ob h.o2 _ e).2), fun V vs hs => ?_⟩
  exact (hs.more fun _ => .inr).stay (stay_set hp)

theorem set_ne {w W : World} {P : Nat → Prop} {A1 A2 : Option Addr} {c1 c2 : Nat} {rs : List Rb} {ts : List Rt} (h : GrpAt w W w.heap.size P A1 c1 rs A2 c2 ts) (k : Nat) (hk : ob A2 = some k) : k ≠ w.heap.size := by
  rintro rfl; exact h.n2 hk

set_option maxRecDepth 100000 in
set_option maxHeartbeats 4000000 in
theorem group_any (A : Option Addr) (c : Nat) (bs : List Rb) (w : World) (hA : BeatsAt w (Lo w.heap.size) A bs) (hl : bs.length ≤ 40) (hv : ∀ r ∈ bs, r.bt.vals.length * 16 ≤ 140737488355328) :
    Calls Tryz.prog 7 #[.slice A bs.length c] w (RetTs w (bs.map Rb.bt)) := by
  have HV := hide hv
  clear hv
  obtain ⟨i0, hi0, hz0, hz1, hz2⟩ := info_parts infoB
  obtain ⟨j0, hj0, yz0, yz1, yz2⟩ := info_parts infoT
  go_enter Tryz.func7, Tryz.ntmps7
  go_wp2_with fail
  go_loopw [3, 9] (fun out i wr => GrpRel w bs out i wr) (fun _ i _ => bs.length - (intOf i).toNat)
  case atStart => exact ⟨0, _, none, 0, [], none, 0, [], Nat.zero_le _, rfl, rfl, grp_start w, Nat.le_refl _, Nat.le_refl _, rfl⟩
  case round =>
    obtain ⟨k, P, A1, c1, rs, A2, c2, ts, hk, rfl, rfl, hst, hl1, hl2, hgr⟩ := hrel
    by_cases hlt : k < bs.length
    · have HG := hide hgr
      have HST := hide hst
      have hAr := hA.stay (stay_below hst.hb fun b hb => hb)
      obtain ⟨b0, off0, hAe, hb0, q1, q2, q3, q4, q5⟩ := hAr.at_ hlt
      subst hAe
      have hvk := HV.out _ (List.getElem_mem hlt)
      have HBK := hide (show (bs.map Rb.bt)[k]'(by simpa using hlt) = bs[k].bt by simp)
      have q5' : StrsAt (wr.alloc (.cells #[.int .i64 bs[k].bt.time, .int .i64 bs[k].bt.waited, .slice bs[k].V bs[k].bt.vals.length bs[k].cap, .bool bs[k].bt.last] 27)) (Lo w.heap.size) bs[k].V bs[k].bt.vals := q5.stay (stay_alloc _ fun b hb => by have := hst.hb.size; unfold Lo at hb; omega)
      have hpl : ∀ b, Lo w.heap.size b → b < (wr.alloc (.cells #[.int .i64 bs[k].bt.time, .int .i64 bs[k].bt.waited, .slice bs[k].V bs[k].bt.vals.length bs[k].cap, .bool bs[k].bt.last] 27)).heap.size := fun b hb => by have := hst.hb.size; unfold Lo at hb; simp; omega
      have HPL := hide hpl
      clear hgr hAr hpl q5
      generalize bs[k] = x at *
      obtain ⟨V0, cap0, bt0⟩ := x
      obtain ⟨tm, wt, vals, lst⟩ := bt0
      dsimp only at *
      go_upto_region 7 with (go_at_call 14; refine (clone_any (Lo w.heap.size) V0 cap0 vals _ q5' hvk HPL.out).mono ?_; rintro e w2 ⟨V', cap', rfl, hs2, b2⟩; have gm2 := box_below b2 (heap_alloc_new wr _); obtain ⟨_, _, m2, _, m2f⟩ := box4 gm2)
      obtain ⟨W3, hW3⟩ : ∃ W3 : World, w2.setCell ⟨wr.heap.size, 2, none⟩ (.slice V' vals.length cap') = W3 := ⟨_, rfl⟩
      obtain ⟨gm3, hz3, hst3, hstr⟩ := beat_box HST.out b2 hW3
      have hs3 := hstr V' vals hs2
      have HM1 := hide (show ob A1 ≠ some wr.heap.size from fun e => Nat.lt_irrefl _ (own_ob HST.out.o1 _ e).2)
      have HM2 := hide (show ob A2 ≠ some wr.heap.size from fun e => Nat.lt_irrefl _ (own_ob HST.out.o2 _ e).2)
      rw [hW3]
      clear hz3 hst hW3 hstr hs2 m2 m2f gm2 b2 HST q1 q2 q3 q4 q5' HPL
      generalize hP : (fun k => P k ∨ ((wr.alloc (.cells #[.int .i64 tm, .int .i64 wt, .slice V0 vals.length cap0, .bool lst] 27)).heap.size ≤ k ∧ k < w2.heap.size)) = P3 at *
      clear hP
      generalize wr.heap.size = M at *
      obtain ⟨m1, m2, m3, m4, _⟩ := box4 gm3
      obtain ⟨n1, n2, n3, n4⟩ := box2 hst3.gn
      have HST := hide hst3
      have hlt3 := hst3.lt
      clear hst3
      have hne : M ≠ w.heap.size := by
        rintro rfl
        have := gm3.symm.trans HST.out.gn
        injection this with this
        injection this with _ this
        exact absurd this (by decide)
      go_upto_region 8 with (at_builtin; (refine wpList_append_lies _ rfl _ _ 22 rfl w.heap.size 27 i0 _ 4 48 Tryz.underlying22 hi0 hz0 hz1 hz2 rfl (by decide) (.slice A1 rs.length c1) rs.length (encBs rs) rfl (World.ownsRow.alloc HST.out.o1 _) ⟨W3.heap.size, 0, none⟩ 1 1 (encB ⟨V', cap', ⟨tm, wt, vals, lst⟩⟩) rfl rfl (World.news_of_block (cs := #[.int .i64 tm, .int .i64 wt, .slice V' vals.length cap', .bool lst]) (t := 27) (fr := (0, 0)) (heap_alloc_new W3 _)) (by simp [encB, Value.oneCell']) (by omega) (by simp only [maxLen]; omega) (by omega) (by simp; omega) (W3.heap.size + 1) (by simp) ?_); intro g1 e1 w5 hown5 hg5 hat5 hlt5; rw [ob_eq] at hg5 hat5; obtain ⟨gn5, hst5⟩ := HST.out.put hg5 (ownB_of (r := ⟨V', cap', ⟨tm, wt, vals, lst⟩⟩) hown5) hat5 hs3; have gm5 := box_grown (box_alloc (o' := .cells #[.int .i64 tm, .int .i64 wt, .slice V' vals.length cap', .bool lst] 27) gm3) hg5 HM1.out; obtain ⟨k1, _, k3, _⟩ := box2 gn5)
      obtain ⟨W6, hW6⟩ : ∃ W6 : World, w5.setCell ⟨w.heap.size, 0, none⟩ (.slice (some ⟨g1, 0, none⟩) (rs.length + 1) e1) = W6 := ⟨_, rfl⟩
      have gm6 : W6.heap[M]? = some (.cells #[.int .i64 tm, .int .i64 wt, .slice V' vals.length cap', .bool lst] 27 (0, 0)) := by rw [← hW6]; exact box_set gm5 hne
      rw [hW6] at hst5
      rw [hW6]
      have HS6 := hide hst5
      obtain ⟨u1, u2, u3, u4⟩ := box2 hst5.gn
      obtain ⟨_, _, _, u5, _⟩ := box4 gm6
      have hlt6 := hst5.lt
      have HLR := hide (show (rs ++ [(⟨V', cap', ⟨tm, wt, vals, lst⟩⟩ : Rb)]).length = rs.length + 1 by simp)
      clear hW6 hst5 gm5 gn5 hg5 hown5 hat5 hlt5 m1 m2 m3 m4 n1 n2 n3 n4 HST hlt3 gm3 hs3 k1 k3
      cases lst
      · go_wp2_with fail
        go_roundw
        case rel =>
          refine ⟨k + 1, P3, some ⟨g1, 0, none⟩, e1, rs ++ [⟨V', cap', ⟨tm, wt, vals, false⟩⟩], A2, c2, ts, by omega, by go_num, rfl, HS6.out, by rw [HLR.out]; omega, by omega, ?_⟩
          rw [grp_take_succ _ _ (by simpa using hlt), HBK.out, ← HG.out]
          simp
        case measure => simp [intOf]; omega
      · have HO6 := hide (show OwnT (W6.setCell ⟨w.heap.size, 1, none⟩ (.bool true)) w.heap.size A2 c2 ts from own_block HS6.out.o2 fun k hk => Below.heap_setCell _ _ _ _ (by simpa using set_ne HS6.out k hk))
        have HB6 := hide (show ((W6.setCell ⟨w.heap.size, 1, none⟩ (.bool true)).alloc (.cells #[.slice (some ⟨g1, 0, none⟩) (rs.length + 1) e1, .bool true] 35)).heap[W6.heap.size]? = some (.cells #[.slice (some ⟨g1, 0, none⟩) (rs.length + 1) e1, .bool true] 35 (0, 0)) by
          have := heap_alloc_new (W6.setCell ⟨w.heap.size, 1, none⟩ (.bool true)) (.cells #[.slice (some ⟨g1, 0, none⟩) (rs.length + 1) e1, .bool true] 35)
          simpa using this)
        go_wp2_with (at_builtin; (refine wpList_append_lies _ rfl _ _ 29 rfl w.heap.size 35 j0 _ 2 32 Tryz.underlying29 hj0 yz0 yz1 yz2 rfl (by decide) (.slice A2 ts.length c2) ts.length (encTs ts) rfl (World.ownsRow.alloc HO6.out _) ⟨W6.heap.size, 0, none⟩ 1 1 [.slice (some ⟨g1, 0, none⟩) (rs.length + 1) e1, .bool true] rfl rfl (World.news_of_block HB6.out) (by simp [Value.oneCell']) (by omega) (by simp only [maxLen]; omega) (by omega) (by simp; omega) (W6.heap.size + 1) (by simp) ?_); intro g2 e2 w7 hown7 hg7 hat7 hlt7; rw [ob_eq] at hg7 hat7; obtain ⟨gn7, hst7⟩ := HS6.out.done hg7 (ownT_of (t := ⟨some ⟨g1, 0, none⟩, e1, rs ++ [⟨V', cap', ⟨tm, wt, vals, true⟩⟩], true⟩) (by unfold encT; rw [HLR.out]; exact hown7)) hat7; obtain ⟨_, _, k3, k4⟩ := box2 gn7; have HS7 := hide hst7; clear hst7)
        go_roundw
        case rel =>
          refine ⟨k + 1, _, none, 0, [], some ⟨g2, 0, none⟩, e2, ts ++ [⟨some ⟨g1, 0, none⟩, e1, rs ++ [⟨V', cap', ⟨tm, wt, vals, true⟩⟩], true⟩], by omega, by go_num, by simp, HS7.out, by simp, by simp; omega, ?_⟩
          rw [grp_take_succ _ _ (by simpa using hlt), HBK.out, ← HG.out]
          simp [tcont]
        case measure => simp [intOf]; omega
    · have hke : k = bs.length := by omega
      subst hke
      have HG := hide hgr
      obtain ⟨n1, n2, n3, n4⟩ := box2 hst.gn
      have HS := hide hst
      have hlt6 := hst.lt
      have HT := hide (show (bs.map Rb.bt).take bs.length = bs.map Rb.bt from List.take_of_length_le (by simp))
      clear hst hgr
      by_cases h0 : rs.length = 0
      · have hrs : rs = [] := List.eq_nil_of_length_eq_zero h0
        have HR := hide hrs
        clear hrs
        rw [h0] at n1
        clear h0
        go_wp2_with fail
        go_ret
        refine ⟨A2, c2, ts, rfl, HS.out.reads, HS.out.hb, ?_⟩
        have := HG.out
        rw [HT.out, HR.out] at this
        unfold groupL grpEnd
        rw [← this]
        simp
      · have hpos : 0 < rs.length := by omega
        have HB6 := hide (heap_alloc_new wr (.cells #[.slice A1 rs.length c1, .bool false] 35))
        go_wp2_with (at_builtin; (refine wpList_append_lies _ rfl _ _ 29 rfl w.heap.size 35 j0 _ 2 32 Tryz.underlying29 hj0 yz0 yz1 yz2 rfl (by decide) (.slice A2 ts.length c2) ts.length (encTs ts) rfl (World.ownsRow.alloc HS.out.o2 _) ⟨wr.heap.size, 0, none⟩ 1 1 [.slice A1 rs.length c1, .bool false] rfl rfl (World.news_of_block HB6.out) (by simp [Value.oneCell']) (by omega) (by simp only [maxLen]; omega) (by omega) (by simp; omega) (wr.heap.size + 1) (by simp) ?_); intro g2 e2 w7 hown7 hg7 hat7 hlt7; rw [ob_eq] at hg7; obtain ⟨ht7, hb7⟩ := HS.out.last hg7 (ownT_of (t := ⟨A1, c1, rs, false⟩) hown7))
        go_ret
        refine ⟨some ⟨g2, 0, none⟩, e2, ts ++ [⟨A1, c1, rs, false⟩], by simp, ht7, hb7, ?_⟩
        have := HG.out
        rw [HT.out] at this
        unfold groupL grpEnd
        rw [← this]
        have hne : rs.map Rb.bt ≠ [] := by
          intro e
          have : rs = [] := by simpa using e
          rw [this] at hpos
          exact Nat.lt_irrefl _ hpos
        rw [if_neg hne]
        simp [tcont]

end Go.Proofs.YtlockjbhdibojaaGreatDoor
