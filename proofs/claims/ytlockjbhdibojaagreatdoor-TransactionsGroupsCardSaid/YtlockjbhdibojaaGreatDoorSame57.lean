/-
  wavestoreref16.Texts, wavestoreref57.Beat, Same and Transactions: true of what reads alike.
-/
import Derived.Test.YtlockjbhdibojaaGreatDoorGroupW
namespace Go.Proofs.YtlockjbhdibojaaGreatDoor
open Go.RowKit

theorem below_drewN {B : Nat} {a w : World} (h : Below B a w) (n : Nat) : Below B a (w.drewN n) := ⟨h.os, h.tape, h.output, h.size, h.block⟩
theorem below_drew {B : Nat} {a w : World} (h : Below B a w) : Below B a w.drew := ⟨h.os, h.tape, h.output, h.size, h.block⟩
def TxRel (w : World) (n : Nat) (i : Value) (wr : World) : Prop := ∃ k q : Nat, k ≤ n ∧ i = .int .i64 k ∧ wr = w.drewN q

set_option maxRecDepth 100000 in
set_option maxHeartbeats 2000000 in
theorem texts_true (P P' : Nat → Prop) (A B : Option Addr) (c d : Nat) (vs : List ByteArray) (w : World) (ha : StrsAt w P A vs) (hb : StrsAt w P' B vs) (hl : vs.length * 16 ≤ 140737488355328) :
    Calls Tryz.prog 20 #[.slice A vs.length c, .slice B vs.length d] w fun e w' => e = .returned (.bool true) ∧ Below w.heap.size w w' := by
  go_enter Tryz.func20, Tryz.ntmps20
  go_wp2_with fail
  go_loopw [5] (fun i wr => TxRel w vs.length i wr) (fun i _ => vs.length - (intOf i).toNat)
  case atStart => exact ⟨0, 0, Nat.zero_le _, rfl, rfl⟩
  case round =>
    obtain ⟨k, q, hk, rfl, rfl⟩ := hrel
    by_cases hlt : k < vs.length
    · obtain ⟨b1, o1, hAe, _, q1⟩ := ha.at_ hlt
      obtain ⟨b2, o2, hBe, _, q2⟩ := hb.at_ hlt
      subst hAe hBe
      generalize vs[k] = s at *
      have j0 : (0 : Int) ≤ (k : Int) := Int.natCast_nonneg _
      have j1 : (k : Int) < (vs.length : Int) := by omega
      have hq1 : (w.drewN q).cell? ⟨b1, o1 + k, none⟩ = some (.string s) := q1
      have hq2 : (w.drewN q).cell? ⟨b2, o2 + k, none⟩ = some (.string s) := q2
      go_wp2_with fail
      go_quiet (fail)
      go_wp2_with fail
      go_roundw
      case rel => exact ⟨k + 1, q + nq, by omega, by go_num, by simp [World.drewN]⟩
      case measure => simp [intOf]; omega
    · go_wp2_with fail
      go_ret
      exact ⟨rfl, below_drewN (Below.refl _ _) q⟩

set_option maxRecDepth 100000 in
theorem beat_true (P P' : Nat → Prop) (V V' : Option Addr) (c c' : Nat) (b : Bt) (w : World) (ha : StrsAt w P V b.vals) (hb : StrsAt w P' V' b.vals) (hp : ∀ k, P k → k < w.heap.size) (hp' : ∀ k, P' k → k < w.heap.size) (hl : b.vals.length * 16 ≤ 140737488355328) :
    Calls Tryz.prog 15 #[.agg #[.int .i64 b.time, .int .i64 b.waited, .slice V b.vals.length c, .bool b.last], .agg #[.int .i64 b.time, .int .i64 b.waited, .slice V' b.vals.length c', .bool b.last]] w fun e w' => e = .returned (.bool true) ∧ Below w.heap.size w w' := by
  obtain ⟨tm, wt, vals, lst⟩ := b
  dsimp only at *
  have hst : Below w.heap.size w ((w.alloc (.cells #[.int .i64 tm, .int .i64 wt, .slice V vals.length c, .bool lst] 27)).alloc (.cells #[.int .i64 tm, .int .i64 wt, .slice V' vals.length c', .bool lst] 27)) := ((Below.refl _ _).alloc (Nat.le_refl _) _).alloc (by simp) _
  have ha' := ha.stay (stay_below hst hp)
  have hb' := hb.stay (stay_below hst hp')
  go_enter Tryz.func15, Tryz.ntmps15
  go_wp2_with (go_at_call 20; refine (texts_true P P' V V' c c' vals _ ha' hb' hl).mono ?_; rintro e w1 ⟨rfl, b1⟩)
  go_ret
  exact ⟨rfl, bstep hst b1⟩

def BeRel (w : World) (n : Nat) (i : Value) (wr : World) : Prop := ∃ k : Nat, k ≤ n ∧ i = .int .i64 k ∧ Below w.heap.size w wr

theorem quiet_hold {w wr : World} (h : Below w.heap.size w wr) : Below w.heap.size w wr.drew := below_drew h

set_option maxRecDepth 100000 in
set_option maxHeartbeats 4000000 in
theorem bsame_true (A B : Option Addr) (c d : Nat) (rs rs' : List Rb) (w : World) (ha : BeatsAt w (Lo w.heap.size) A rs) (hb : BeatsAt w (Lo w.heap.size) B rs') (he : rs.map Rb.bt = rs'.map Rb.bt) (hl : rs.length ≤ 1000) (hv : ∀ r ∈ rs, r.bt.vals.length * 16 ≤ 140737488355328) :
    Calls Tryz.prog 12 #[.slice A rs.length c, .slice B rs'.length d] w fun e w' => e = .returned (.bool true) ∧ Below w.heap.size w w' := by
  have HE := hide he
  have HV := hide hv
  have hle : rs.length = rs'.length := by have := congrArg List.length he; simpa using this
  have HL := hide hle
  rw [← hle]
  clear he hv hle
  go_enter Tryz.func12, Tryz.ntmps12
  go_wp2_with fail
  go_loopw [5] (fun i wr => BeRel w rs.length i wr) (fun i _ => rs.length - (intOf i).toNat)
  case atStart => exact ⟨0, Nat.zero_le _, rfl, Below.refl _ _⟩
  case round =>
    obtain ⟨k, hk, rfl, hbr⟩ := hrel
    by_cases hlt : k < rs.length
    · have hlt' : k < rs'.length := by rw [← HL.out]; exact hlt
      obtain ⟨b1, o1, hAe, hb1, q1, q2, q3, q4, q5⟩ := (ha.stay (stay_below hbr fun _ h => h)).at_ hlt
      obtain ⟨b2, o2, hBe, hb2', p1, p2, p3, p4, p5⟩ := (hb.stay (stay_below hbr fun _ h => h)).at_ hlt'
      subst hAe hBe
      have hbt : rs'[k].bt = rs[k].bt := by
        have := congrArg (fun l => l[k]?) HE.out
        simp [hlt, hlt'] at this
        exact this.symm
      rw [hbt] at p1 p2 p3 p4 p5
      have hvk := HV.out _ (List.getElem_mem hlt)
      generalize rs[k].V = V1 at *
      generalize rs[k].cap = e1 at *
      generalize rs'[k].V = V2 at *
      generalize rs'[k].cap = e2 at *
      clear hbt
      generalize rs[k].bt = x at *
      have j0 : (0 : Int) ≤ (k : Int) := Int.natCast_nonneg _
      have j1 : (k : Int) < (rs.length : Int) := by omega
      have hsz := hbr.size
      have q5' : StrsAt wr.drew (Lo w.heap.size) V1 x.vals := q5
      have p5' : StrsAt wr.drew (Lo w.heap.size) V2 x.vals := p5
      have HLO := hide (show ∀ k, Lo w.heap.size k → k < wr.drew.heap.size from fun k hk => Nat.lt_of_lt_of_le hk hsz)
      have S0 : wr.drew.cell? ⟨b1, o1 + k * 4, none⟩ = some (.int .i64 x.time) ∧ wr.drew.cell? ⟨b1, o1 + k * 4 + 1, none⟩ = some (.int .i64 x.waited) ∧ wr.drew.cell? ⟨b1, o1 + k * 4 + 2, none⟩ = some (.slice V1 x.vals.length e1) ∧ wr.drew.cell? ⟨b1, o1 + k * 4 + 3, none⟩ = some (.bool x.last) ∧ wr.drew.cell? ⟨b2, o2 + k * 4, none⟩ = some (.int .i64 x.time) ∧ wr.drew.cell? ⟨b2, o2 + k * 4 + 1, none⟩ = some (.int .i64 x.waited) ∧ wr.drew.cell? ⟨b2, o2 + k * 4 + 2, none⟩ = some (.slice V2 x.vals.length e2) ∧ wr.drew.cell? ⟨b2, o2 + k * 4 + 3, none⟩ = some (.bool x.last) ∧ Below w.heap.size w wr.drew := ⟨q1, q2, q3, q4, p1, p2, p3, p4, below_drew hbr⟩
      go_wp2_with fail
      go_region_held3 (fun wx => wx.cell? ⟨b1, o1 + k * 4, none⟩ = some (.int .i64 x.time) ∧ wx.cell? ⟨b1, o1 + k * 4 + 1, none⟩ = some (.int .i64 x.waited) ∧ wx.cell? ⟨b1, o1 + k * 4 + 2, none⟩ = some (.slice V1 x.vals.length e1) ∧ wx.cell? ⟨b1, o1 + k * 4 + 3, none⟩ = some (.bool x.last) ∧ wx.cell? ⟨b2, o2 + k * 4, none⟩ = some (.int .i64 x.time) ∧ wx.cell? ⟨b2, o2 + k * 4 + 1, none⟩ = some (.int .i64 x.waited) ∧ wx.cell? ⟨b2, o2 + k * 4 + 2, none⟩ = some (.slice V2 x.vals.length e2) ∧ wx.cell? ⟨b2, o2 + k * 4 + 3, none⟩ = some (.bool x.last) ∧ Below w.heap.size w wx)
        (first | (with_reducible assumption) | exact S0)
        ((go_at_call 15; refine (beat_true (Lo w.heap.size) (Lo w.heap.size) V1 V2 e1 e2 x wr.drew q5' p5' HLO.out HLO.out hvk).mono ?_; rintro e w1 ⟨rfl, r1⟩; have hb2 := bstep (w0 := w) (w := wr.drew) (below_drew hbr) r1; have S1 : w1.cell? ⟨b1, o1 + k * 4, none⟩ = some (.int .i64 x.time) ∧ w1.cell? ⟨b1, o1 + k * 4 + 1, none⟩ = some (.int .i64 x.waited) ∧ w1.cell? ⟨b1, o1 + k * 4 + 2, none⟩ = some (.slice V1 x.vals.length e1) ∧ w1.cell? ⟨b1, o1 + k * 4 + 3, none⟩ = some (.bool x.last) ∧ w1.cell? ⟨b2, o2 + k * 4, none⟩ = some (.int .i64 x.time) ∧ w1.cell? ⟨b2, o2 + k * 4 + 1, none⟩ = some (.int .i64 x.waited) ∧ w1.cell? ⟨b2, o2 + k * 4 + 2, none⟩ = some (.slice V2 x.vals.length e2) ∧ w1.cell? ⟨b2, o2 + k * 4 + 3, none⟩ = some (.bool x.last) ∧ Below w.heap.size w w1 := ⟨(r1.cell (Nat.lt_of_lt_of_le hb1 hsz)).trans q1, (r1.cell (Nat.lt_of_lt_of_le hb1 hsz)).trans q2, (r1.cell (Nat.lt_of_lt_of_le hb1 hsz)).trans q3, (r1.cell (Nat.lt_of_lt_of_le hb1 hsz)).trans q4, (r1.cell (Nat.lt_of_lt_of_le hb2' hsz)).trans p1, (r1.cell (Nat.lt_of_lt_of_le hb2' hsz)).trans p2, (r1.cell (Nat.lt_of_lt_of_le hb2' hsz)).trans p3, (r1.cell (Nat.lt_of_lt_of_le hb2' hsz)).trans p4, hb2⟩))
      go_wp2_with fail
      go_roundw
      case rel => exact ⟨k + 1, by omega, by go_num, hb2⟩
      case measure => simp [intOf]; omega
    · go_wp2_with fail
      go_ret
      exact ⟨rfl, hbr⟩

set_option maxRecDepth 100000 in
set_option maxHeartbeats 4000000 in
theorem tsame57_true (A B : Option Addr) (c d : Nat) (ts ts' : List Rt) (w : World) (ha : TransAt w (Lo w.heap.size) A ts) (hb : TransAt w (Lo w.heap.size) B ts') (he : ts.map tcont = ts'.map tcont) (hl : ts.length ≤ 1000) (hv : ∀ t ∈ ts, t.bs.length ≤ 1000 ∧ ∀ r ∈ t.bs, r.bt.vals.length * 16 ≤ 140737488355328) :
    Calls Tryz.prog 6 #[.slice A ts.length c, .slice B ts'.length d] w fun e w' => e = .returned (.bool true) ∧ Below w.heap.size w w' := by
  have HE := hide he
  have HV := hide hv
  have hle : ts.length = ts'.length := by have := congrArg List.length he; simpa using this
  have HL := hide hle
  rw [← hle]
  clear he hv hle
  go_enter Tryz.func6, Tryz.ntmps6
  go_wp2_with fail
  go_loopw [5] (fun i wr => BeRel w ts.length i wr) (fun i _ => ts.length - (intOf i).toNat)
  case atStart => exact ⟨0, Nat.zero_le _, rfl, Below.refl _ _⟩
  case round =>
    obtain ⟨k, hk, rfl, hbr⟩ := hrel
    by_cases hlt : k < ts.length
    · have hlt' : k < ts'.length := by rw [← HL.out]; exact hlt
      obtain ⟨b1, o1, hAe, hb1, q1, q2, q3⟩ := (ha.stay (stay_below hbr fun _ h => h)).at_ hlt
      obtain ⟨b2, o2, hBe, hb2', p1, p2, p3⟩ := (hb.stay (stay_below hbr fun _ h => h)).at_ hlt'
      subst hAe hBe
      have hbt : tcont ts'[k] = tcont ts[k] := by
        have := congrArg (fun l => l[k]?) HE.out
        simp [hlt, hlt'] at this
        exact this.symm
      unfold tcont at hbt
      injection hbt with hbt hdn
      rw [hdn] at p2
      have HBT := hide hbt.symm
      have hvk := HV.out _ (List.getElem_mem hlt)
      have HVK := hide hvk.2
      have hvl := hvk.1
      clear hbt hdn hvk
      generalize ts[k].A = a1 at *
      generalize ts[k].cap = e1 at *
      generalize ts'[k].A = a2 at *
      generalize ts'[k].cap = e2 at *
      generalize ts[k].done = dn at *
      generalize ts[k].bs = r1 at *
      generalize ts'[k].bs = r2 at *
      have j0 : (0 : Int) ≤ (k : Int) := Int.natCast_nonneg _
      have j1 : (k : Int) < (ts.length : Int) := by omega
      have hsz := hbr.size
      have HQ3 := hide (show BeatsAt wr.drew (Lo wr.drew.heap.size) a1 r1 from q3.more fun b hb => Nat.lt_of_lt_of_le hb hsz)
      have HP3 := hide (show BeatsAt wr.drew (Lo wr.drew.heap.size) a2 r2 from p3.more fun b hb => Nat.lt_of_lt_of_le hb hsz)
      clear q3 p3
      generalize hn1 : r1.length = n1 at *
      generalize hn2 : r2.length = n2 at *
      have HN1 := hide hn1
      have HN2 := hide hn2
      clear hn1 hn2
      have S0 : wr.drew.cell? ⟨b1, o1 + k * 2, none⟩ = some (.slice a1 n1 e1) ∧ wr.drew.cell? ⟨b1, o1 + k * 2 + 1, none⟩ = some (.bool dn) ∧ wr.drew.cell? ⟨b2, o2 + k * 2, none⟩ = some (.slice a2 n2 e2) ∧ wr.drew.cell? ⟨b2, o2 + k * 2 + 1, none⟩ = some (.bool dn) ∧ Below w.heap.size w wr.drew := ⟨q1, q2, p1, p2, below_drew hbr⟩
      go_wp2_with fail
      go_region_held3 (fun wx => wx.cell? ⟨b1, o1 + k * 2, none⟩ = some (.slice a1 n1 e1) ∧ wx.cell? ⟨b1, o1 + k * 2 + 1, none⟩ = some (.bool dn) ∧ wx.cell? ⟨b2, o2 + k * 2, none⟩ = some (.slice a2 n2 e2) ∧ wx.cell? ⟨b2, o2 + k * 2 + 1, none⟩ = some (.bool dn) ∧ Below w.heap.size w wx)
        (first | (with_reducible assumption) | exact S0)
        ((go_at_call 12; rw [← HN1.out, ← HN2.out]; refine (bsame_true a1 a2 e1 e2 r1 r2 wr.drew HQ3.out HP3.out HBT.out (by rw [HN1.out]; exact hvl) HVK.out).mono ?_; rintro e w1 ⟨rfl, s1⟩; have hb2 := bstep (w0 := w) (w := wr.drew) (below_drew hbr) s1; have S1 : w1.cell? ⟨b1, o1 + k * 2, none⟩ = some (.slice a1 n1 e1) ∧ w1.cell? ⟨b1, o1 + k * 2 + 1, none⟩ = some (.bool dn) ∧ w1.cell? ⟨b2, o2 + k * 2, none⟩ = some (.slice a2 n2 e2) ∧ w1.cell? ⟨b2, o2 + k * 2 + 1, none⟩ = some (.bool dn) ∧ Below w.heap.size w w1 := ⟨(s1.cell (Nat.lt_of_lt_of_le hb1 hsz)).trans q1, (s1.cell (Nat.lt_of_lt_of_le hb1 hsz)).trans q2, (s1.cell (Nat.lt_of_lt_of_le hb2' hsz)).trans p1, (s1.cell (Nat.lt_of_lt_of_le hb2' hsz)).trans p2, hb2⟩))
      go_wp2_with fail
      go_roundw
      case rel => exact ⟨k + 1, by omega, by go_num, hb2⟩
      case measure => simp [intOf]; omega
    · go_wp2_with fail
      go_ret
      exact ⟨rfl, hbr⟩

end Go.Proofs.YtlockjbhdibojaaGreatDoor
