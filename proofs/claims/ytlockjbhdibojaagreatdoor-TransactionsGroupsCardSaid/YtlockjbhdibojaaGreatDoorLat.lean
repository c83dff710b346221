/-
  transactions.Latencies: the ticks from some times to the next beats.
-/
import Derived.Test.YtlockjbhdibojaaGreatDoorSame57
namespace Go.Proofs.YtlockjbhdibojaaGreatDoor
open Go.RowKit

def IntsAt (w : World) (P : Nat → Prop) (A : Option Addr) (zs : List Int) : Prop :=
  zs ≠ [] → ∃ b off, A = some ⟨b, off, none⟩ ∧ P b ∧ ∀ i z, zs[i]? = some z → w.cell? ⟨b, off + i, none⟩ = some (.int .i64 z)
def OwnI (w : World) (base : Nat) (A : Option Addr) (c : Nat) (zs : List Int) : Prop := w.ownsRow base 3 1 (.slice A zs.length c) zs.length (zs.map (Value.int .i64))
theorem infoInt : (Tryz.prog.info? 3).map (fun i => (i.zero, i.size, i.bytes)) = some (some (.int .i64 0), 1, 8) := by kernel_rfl
theorem IntsAt.stay {w w' : World} {P : Nat → Prop} {A : Option Addr} {zs : List Int} (h : IntsAt w P A zs) (hs : Stay P w w') : IntsAt w' P A zs := fun hx => by
  obtain ⟨b, off, e, hb, hc⟩ := h hx
  exact ⟨b, off, e, hb, fun i s hi => (hs.cell hb).trans (hc i s hi)⟩
theorem IntsAt.more {w : World} {P P' : Nat → Prop} {A : Option Addr} {zs : List Int} (h : IntsAt w P A zs) (hp : ∀ b, P b → P' b) : IntsAt w P' A zs := fun hx => by
  obtain ⟨b, off, e, hb, hc⟩ := h hx
  exact ⟨b, off, e, hp b hb, hc⟩
theorem IntsAt.at_ {w : World} {P : Nat → Prop} {A : Option Addr} {zs : List Int} (h : IntsAt w P A zs) {k : Nat} (hk : k < zs.length) : ∃ b off, A = some ⟨b, off, none⟩ ∧ P b ∧ w.cell? ⟨b, off + k, none⟩ = some (.int .i64 zs[k]) := by
  obtain ⟨b, off, e, hb, hc⟩ := h (fun e => by subst e; simp at hk)
  exact ⟨b, off, e, hb, hc k _ (List.getElem?_eq_getElem hk)⟩
theorem OwnI.reads {w : World} {base : Nat} {A : Option Addr} {c : Nat} {zs : List Int} (h : OwnI w base A c zs) : IntsAt w (Lo w.heap.size) A zs := fun hx => by
  obtain ⟨g, rfl, h1, h2⟩ := own_place h (List.length_pos_iff.2 hx)
  refine ⟨g, 0, rfl, h2, fun i z hi => ?_⟩
  have hlt : i < zs.length := (List.getElem?_eq_some_iff.1 hi).1
  rw [Nat.zero_add, World.ownsRow.cellAt h _ (by omega), List.getElem?_map, hi]
  rfl
theorem ownI_of {w : World} {base g c : Nat} {zs : List Int} {z : Int} (h : w.ownsRow base 3 1 (.slice (some ⟨g, 0, none⟩) (zs.length + 1) c) (zs.length + 1) (zs.map (Value.int .i64) ++ [.int .i64 z])) : OwnI w base (some ⟨g, 0, none⟩) c (zs ++ [z]) := by
  unfold OwnI; rw [List.map_append, List.length_append]; exact h

def latStep (t : Int) (least : Int) (b : Bt) : Int := if t ≤ b.time ∧ (least < 0 ∨ b.time - t < least) then b.time - t else least
def latOf (t : Int) (bs : List Bt) : Int := bs.foldl (latStep t) (-1)
theorem latOf_snoc (t : Int) (bs : List Bt) (b : Bt) : latOf t (bs ++ [b]) = latStep t (latOf t bs) b := by simp [latOf]
theorem latOf_take (t : Int) (bs : List Bt) (k : Nat) (h : k < bs.length) : latOf t (bs.take (k + 1)) = latStep t (latOf t (bs.take k)) bs[k] := by
  rw [List.take_succ_eq_append_getElem h, latOf_snoc]
def Tm (t : Int) : Prop := -1099511627776 ≤ t ∧ t ≤ 1099511627776
theorem latOf_bd (t : Int) (ht : Tm t) (bs : List Bt) (h : ∀ b ∈ bs, Tm b.time) : -1 ≤ latOf t bs ∧ latOf t bs ≤ 2199023255552 := by
  suffices H : ∀ (l : Int), (-1 ≤ l ∧ l ≤ 2199023255552) → -1 ≤ bs.foldl (latStep t) l ∧ bs.foldl (latStep t) l ≤ 2199023255552 by exact H (-1) (by omega)
  induction bs with
  | nil => intro l hl; exact hl
  | cons b bs ih =>
    intro l hl
    rw [List.foldl_cons]
    refine ih (fun x hx => h x (by simp [hx])) _ ?_
    have hb := h b (by simp)
    unfold Tm at hb ht
    unfold latStep
    split <;> omega

def RetInts (w : World) (zs : List Int) (e : Ending) (w' : World) : Prop := ∃ (A : Option Addr) (c : Nat), e = .returned (.slice A zs.length c) ∧ IntsAt w' (Lo w'.heap.size) A zs ∧ Below w.heap.size w w'
def LatRel (w : World) (ts : List Int) (bs : List Bt) (out i : Value) (wr : World) : Prop := ∃ (k : Nat) (A : Option Addr) (c : Nat), k ≤ ts.length ∧ i = .int .i64 k ∧ out = .slice A k c ∧ OwnI wr w.heap.size A c ((ts.take k).map fun t => latOf t bs) ∧ Below w.heap.size w wr
def LatIn (wo : World) (t : Int) (bs : List Bt) (least i : Value) (wr : World) : Prop := ∃ k : Nat, k ≤ bs.length ∧ i = .int .i64 k ∧ least = .int .i64 (latOf t (bs.take k)) ∧ Below wo.heap.size wo wr

theorem own_len {w : World} {base k c : Nat} {A : Option Addr} {zs : List Int} (h : k = zs.length) (ho : OwnI w base A c zs) : w.ownsRow base 3 1 (.slice A k c) k (zs.map (Value.int .i64)) := by subst h; exact ho

set_option maxRecDepth 100000 in
set_option maxHeartbeats 4000000 in
theorem lat_any (A B : Option Addr) (c d : Nat) (ts : List Int) (rs : List Rb) (w : World) (ha : IntsAt w (Lo w.heap.size) A ts) (hb : BeatsAt w (Lo w.heap.size) B rs) (hl : ts.length ≤ 40) (hr : rs.length ≤ 40) (ht : ∀ t ∈ ts, Tm t) (hbt : ∀ r ∈ rs, Tm r.bt.time) :
    Calls Tryz.prog 10 #[.slice A ts.length c, .slice B rs.length d] w (RetInts w (ts.map fun t => latOf t (rs.map Rb.bt))) := by
  have HT := hide ht
  have HB := hide (show ∀ b ∈ rs.map Rb.bt, Tm b.time from fun b hb => by obtain ⟨r, hr, rfl⟩ := List.mem_map.1 hb; exact hbt r hr)
  clear ht hbt
  obtain ⟨i0, hi0, hz0, hz1, hz2⟩ := info_parts infoInt
  go_enter Tryz.func10, Tryz.ntmps10
  go_wp2_with fail
  go_loopw [5, 7, 8, 13, 19] (fun out _ _ i _ wr => LatRel w ts (rs.map Rb.bt) out i wr) (fun _ _ _ i _ _ => ts.length - (intOf i).toNat)
  case atStart => exact ⟨0, none, 0, Nat.zero_le _, rfl, rfl, World.ownsRow_nil _ _ _ 1, Below.refl _ _⟩
  case round =>
    obtain ⟨k, A2, c2, hk, rfl, rfl, hown, hbr⟩ := hrel
    by_cases hlt : k < ts.length
    · obtain ⟨wo, rfl⟩ : ∃ wo : World, wo = wr := ⟨_, rfl⟩
      obtain ⟨b1, o1, hAe, hb1, q1⟩ := (ha.stay (stay_below hbr fun _ h => h)).at_ hlt
      subst hAe
      have htk := HT.out _ (List.getElem_mem hlt)
      have HTK := hide (show ts.take (k + 1) = ts.take k ++ [ts[k]] from List.take_succ_eq_append_getElem hlt)
      generalize ts[k] = t at *
      obtain ⟨t1, t2⟩ := htk
      have hbw := hb.stay (stay_below hbr fun _ h => h)
      go_wp2_with fail
      go_loopw [8, 19] (fun least i wr => LatIn wo t (rs.map Rb.bt) least i wr) (fun _ i _ => rs.length - (intOf i).toNat)
      case atStart => exact ⟨0, Nat.zero_le _, rfl, rfl, Below.refl _ _⟩
      case round =>
        obtain ⟨j, hj, rfl, rfl, hbj⟩ := hrel
        have hjl : j ≤ rs.length := by simpa using hj
        have hbd := latOf_bd t ⟨t1, t2⟩ ((rs.map Rb.bt).take j) (fun b hb => HB.out b (List.mem_of_mem_take hb))
        by_cases hlj : j < rs.length
        · have hsz := hbr.size
          obtain ⟨b2, o2, hBe, hb2, p1, p2, p3, p4, p5⟩ := (hbw.stay (stay_below hbj fun b hb => Nat.lt_of_lt_of_le hb hsz)).at_ hlj
          subst hBe
          have HS := hide (latOf_take t (rs.map Rb.bt) j (by simpa using hlj))
          have HRJ := hide (show (rs.map Rb.bt)[j]'(by simpa using hlj) = rs[j].bt by simp)
          have hbj2 := HB.out rs[j].bt (List.mem_map.2 ⟨rs[j], List.getElem_mem hlj, rfl⟩)
          unfold Tm at hbj2
          obtain ⟨z1, z2⟩ := hbj2
          generalize latOf t ((rs.map Rb.bt).take j) = l0 at *
          generalize hx : rs[j].bt = x at *
          clear hx
          obtain ⟨l1, l2⟩ := hbd
          by_cases h1 : t ≤ x.time
          · by_cases h2 : l0 < 0
            · go_wp2_with fail
              go_roundw
              case rel => exact ⟨j + 1, by simp; omega, by go_num, by rw [HS.out, HRJ.out, latStep, if_pos ⟨h1, .inl h2⟩], hbj.alloc hbj.size _⟩
              case measure => simp [intOf]; omega
            · by_cases h3 : x.time - t < l0
              · go_wp2_with fail
                go_roundw
                case rel => exact ⟨j + 1, by simp; omega, by go_num, by rw [HS.out, HRJ.out, latStep, if_pos ⟨h1, .inr h3⟩], hbj.alloc hbj.size _⟩
                case measure => simp [intOf]; omega
              · go_wp2_with fail
                go_roundw
                case rel => exact ⟨j + 1, by simp; omega, by go_num, by rw [HS.out, HRJ.out, latStep, if_neg (by omega)], hbj.alloc hbj.size _⟩
                case measure => simp [intOf]; omega
          · go_wp2_with fail
            go_roundw
            case rel => exact ⟨j + 1, by simp; omega, by go_num, by rw [HS.out, HRJ.out, latStep, if_neg (by omega)], hbj.alloc hbj.size _⟩
            case measure => simp [intOf]; omega
        · have hje : j = rs.length := by omega
          subst hje
          have HA := hide (show (rs.map Rb.bt).take rs.length = rs.map Rb.bt from List.take_of_length_le (by simp))
          have hownr : OwnI wr w.heap.size A2 c2 ((ts.take k).map fun t => latOf t (rs.map Rb.bt)) := own_block hown fun g hg => hbj.block g (own_ob hown g hg).2
          have HLK := hide (show k = ((ts.take k).map fun t => latOf t (rs.map Rb.bt)).length by simp; omega)
          have HOW := hide hownr
          have hsz2 := hbj.size
          have hsz := hbr.size
          go_wp2_with (at_builtin; (refine wpList_append_lies _ rfl _ _ 23 rfl w.heap.size 3 i0 _ 1 8 Tryz.underlying23 hi0 hz0 hz1 hz2 rfl (by decide) (.slice A2 k c2) k (((ts.take k).map fun t => latOf t (rs.map Rb.bt)).map (Value.int .i64)) rfl (World.ownsRow.alloc (own_len HLK.out HOW.out) _) ⟨wr.heap.size, 0, none⟩ 1 1 [.int .i64 (latOf t ((rs.map Rb.bt).take rs.length))] rfl rfl (World.news_of_block (heap_alloc_new wr _)) (by simp [Value.oneCell']) (by omega) (by simp only [maxLen]; omega) (by omega) (by simp; omega) (wr.heap.size + 1) (by simp) ?_); intro g2 e2 w7 hown7 hg7 hat7 hlt7; rw [ob_eq] at hg7)
          go_roundw
          case rel =>
            refine ⟨k + 1, some ⟨g2, 0, none⟩, e2, by omega, by go_num, rfl, ?_, ?_⟩
            · rw [HTK.out, List.map_append]
              refine ownI_of (zs := (ts.take k).map fun t => latOf t (rs.map Rb.bt)) (z := latOf t (rs.map Rb.bt)) ?_
              rw [← HLK.out, ← HA.out]
              rw [HA.out]
              rw [HA.out] at hown7
              exact hown7
            · refine (((hbr.trans (hbj.mono hsz)).alloc (by omega) _)).grown hg7 (by simp; omega) (fun g hg => (own_ob hownr g hg).1)
          case measure => simp [intOf]; omega
    · have hke : k = ts.length := by omega
      subst hke
      go_wp2_with fail
      go_ret
      have e : ts.take ts.length = ts := List.take_length
      rw [e] at hown
      exact ⟨A2, c2, by simp, hown.reads, hbr⟩

end Go.Proofs.YtlockjbhdibojaaGreatDoor
