/-
  Several texts in one: EAwake, LiftKinds. Each says at its head what it holds.
-/
import Derived.Test.YtbhcmnfeeogdhaaGreatDoorEK16
import Derived.Test.YtbhcmnfeeogdhaaGreatDoorEK3
import Derived.Test.YtbhcmnfeeogdhaaGreatDoorEK2

/-
  wavestorelaw53.awake: true.
-/
namespace Go.Proofs.YtbhcmnfeeogdhaaGreatDoor
open Go.RowKit

theorem row_blk {α : Type} {w : World} {P : Nat → Prop} {N m : Nat} {cs : Array Value} {t : TypeId} {cells : α → List Value} {xs : List α} (h : w.heap[N]? = some (.cells cs t (0, 0))) (hf : ∀ x, (cells x).length = m) (hc : cs = (xs.flatMap cells).toArray) (hp : P N) : Row w P m cells (some ⟨N, 0, none⟩) xs := fun _ => by
  refine ⟨N, 0, rfl, hp, fun i x hi j hj => ?_⟩
  rw [Nat.zero_add, cell_of_row w N _ cs t (0, 0) h, hc, List.getElem?_toArray]
  exact flat_at cells m hf hi hj
theorem ints_blk {w : World} {N : Nat} {cs : Array Value} {t : TypeId} {zs : List Int} (h : w.heap[N]? = some (.cells cs t (0, 0))) (hc : cs = (zs.map (Value.int .i64)).toArray) : IntsAt w w.heap.size (some ⟨N, 0, none⟩) zs := fun _ => by
  refine ⟨N, 0, rfl, box_lt h, fun i z hi => ?_⟩
  rw [cell_of_row w N _ cs t (0, 0) h, hc, List.getElem?_toArray, Nat.zero_add, List.getElem?_map, hi]
  rfl
def IntsRelA (w : World) (xs : List Int) (i : Value) (wr : World) : Prop := ∃ k : Nat, k ≤ xs.length ∧ i = .int .i64 k ∧ Below w.heap.size w wr
set_option maxHeartbeats 1000000 in
theorem ints_eqA (A B : Option Addr) (c d : Nat) (xs : List Int) (w : World) (hx : IntsAt w w.heap.size A xs) (hy : IntsAt w w.heap.size B xs) (hl : xs.length ≤ 4398046511104) :
    Calls Tryz.prog 16 #[.slice A xs.length c, .slice B xs.length d] w fun e w' => e = .returned (.bool true) ∧ Below w.heap.size w w' := by
  go_enter Tryz.func16, Tryz.ntmps16
  go_wp2_with fail
  go_loopw [5] (fun i wr => IntsRelA w xs i wr) (fun i _ => xs.length - (intOf i).toNat)
  case atStart => exact ⟨0, Nat.zero_le _, rfl, Below.refl _ _⟩
  case round =>
    obtain ⟨k, hk, rfl, hb⟩ := hrel
    by_cases hlt : k < xs.length
    · obtain ⟨b, off, rfl, hbb, hc1⟩ := (hx.below hb).at_ hlt
      obtain ⟨b', off', rfl, hbb', hc1'⟩ := (hy.below hb).at_ hlt
      have hd1 : decide ((k : Int) < (xs.length : Int)) = true := decide_eq_true (by omega)
      have hq0 : (0 : Int) ≤ (k : Int) := by omega
      go_wp2_with fail
      go_quiet (fail)
      go_wp2_with fail
      go_roundw
      case rel => exact ⟨k + 1, by omega, by go_num, below_drewN hb _⟩
      case measure => simp [intOf]; omega
    · go_wp2_with fail
      go_ret
      exact ⟨rfl, hb⟩
theorem ints_two (A B : Option Addr) (c d n : Nat) (xs : List Int) (hn : xs.length = n) (w : World) (hx : IntsAt w w.heap.size A xs) (hy : IntsAt w w.heap.size B xs) (hl : n ≤ 4398046511104) :
    Calls Tryz.prog 16 #[.slice A n c, .slice B n d] w fun e w' => e = .returned (.bool true) ∧ Below w.heap.size w w' := by
  subst hn
  exact ints_eqA A B c d xs w hx hy hl
/-- the times of the example -/
def AwPost (zs : List Int) (n : Nat) (w : World) (e : Ending) (w' : World) : Prop := ∃ (C : Option Addr) (cc : Nat), e = .returned (.slice C n cc) ∧ IntsAt w' w'.heap.size C zs ∧ Below w.heap.size w w'
theorem aw_37 : chgT 37 0 awSp 3 = [5] := by simp [chgT, awSp, chg1, isEv, eq1_lit]
theorem aw_40 : chgT 40 0 awSp 3 = [2, 8] := by simp [chgT, awSp, chg1, isEv, eq1_lit, unkB]
theorem aw_39 : chgT 39 0 awSp 3 = [5] := by simp [chgT, awSp, chg1, isEv, eq1_lit, unkB]
theorem aw_41 : chgT 41 0 awSp 3 = [2, 5, 8] := by simp [chgT, awSp, chg1, isEv, ByteArray.toList_eq]
theorem aw_tree {w : World} {M K : Nat} {t : TypeId} (h : w.heap[K]? = some (.cells (cNd awX).toArray t (0, 0))) (hne : K ≠ M) : TreesAt w (Un M w.heap.size) (some ⟨K, 0, none⟩) [awX] := by
  refine .mk _ _ (by simp) (row_blk h (fun x => by cases x; rfl) (by simp) ⟨box_lt h, hne⟩) fun k hk => ?_
  cases List.mem_singleton.1 hk
  exact .mk _ _ (by simp [awX, Nd.kids]) (fun h => absurd rfl h) fun k hk => by cases hk
theorem aw_res (A : Option Addr) (c : Nat) (S : Option Addr) (sc : Nat) {l : List Spn} (h : Spans (fun u => valF (envW (awWv A c S sc) u) awX) (max (0 - 1) 0) 9 l) : l = awSp := by
  have h0 : (fun u => valF (envW (awWv A c S sc) u) awX) = valS (awSg A c) := by
    funext u
    unfold awX
    rw [valF_mk, if_pos rfl]
    rfl
  rw [h0] at h
  exact h.uniq (aw_spans A c)

set_option maxRecDepth 100000 in
set_option maxHeartbeats 8000000 in
theorem aw_of (kind : Int) (zs : List Int) (m : Nat) (hk : 37 ≤ kind ∧ kind ≤ 41) (hzs : chgT kind 0 awSp 3 = zs) (hm : zs.length = m) (A S : Option Addr) (B : Nat) (w : World) (hbox : w.heap[B]? = some (.cells #[.slice S 1 1, .slice none 0 0, .int .i64 9] 27 (0, 0))) (hS : SigsAt w (Lo w.heap.size) S [awSg A 3]) :
    Calls Tryz.prog 24 #[.int .i64 kind, .pointer (some ⟨B, 0, none⟩)] w (AwPost zs m w) := by
  have hv := aw_small A 3 S 1
  have HNEW := hide (show Calls Tryz.prog 13 #[.agg #[.slice S 1 1, .slice none 0 0, .int .i64 9]] w (fun e w' => ∃ M, e = .returned (.pointer (some ⟨M, 0, none⟩)) ∧ w.heap.size ≤ M ∧ SourceAt w' M (awWv A 3 S 1) (-1) 0 ∧ Below w.heap.size w w') from new_any (awWv A 3 S 1) w hS)
  have HT := hide (fun (M : Nat) (W : World) (h : SourceAt W M (awWv A 3 S 1) (-1) 0) (KA : Option Addr) (ht : TreesAt W (Un M W.heap.size) KA [awX]) =>
    times_simple (awWv A 3 S 1) 0 M kind 0 ⟨#[]⟩ ⟨#[]⟩ 0 0 0 0 KA 1 awX 0 9 W h hv ht (aw_nok kind hk KA 1) aw_ok aw_few (aw_nodes kind KA 1) (aw_nev kind hk KA 1) (aw_nfit kind hk KA 1 A 3 S 1) (by decide) (by decide) ⟨_, aw_type⟩ (by rw [aw_type]; split <;> rfl) (aw_fit A 3 S 1) hk (by decide) (by decide) (show (9 : Int) ≤ 9 by decide))
  have c0 : w.cell? ⟨B, 0, none⟩ = some (.slice S 1 1) := by rw [cell_of_row w B _ _ _ (0, 0) hbox]; rfl
  have c1 : w.cell? ⟨B, 1, none⟩ = some (.slice none 0 0) := by rw [cell_of_row w B _ _ _ (0, 0) hbox]; rfl
  have c2 : w.cell? ⟨B, 2, none⟩ = some (.int .i64 9) := by rw [cell_of_row w B _ _ _ (0, 0) hbox]; rfl
  have HRES := hide (fun (l : List Spn) => aw_res A 3 S 1 (l := l))
  clear hv hS hbox hk
  unfold srcV at HT
  go_enter Tryz.func24, Tryz.ntmps24
  go_wp2_with first
    | (go_at_call 13
       refine HNEW.out.mono ?_
       rintro e w1 ⟨M, rfl, hM, hs1, hb1⟩
       obtain ⟨W1, hW1⟩ : ∃ W1, w1.alloc (.cells #[.int .i64 1, .int .i64 0, .string ⟨#[]⟩, .string ⟨#[]⟩, .int .i64 0, .int .i64 1, .int .i64 0, .int .i64 0, .slice none 0 0] 30) = W1 := ⟨_, rfl⟩
       have g1 := new_at hW1
       have hb2 : Below w1.heap.size w1 W1 := by rw [← hW1]; exact (Below.refl _ _).alloc (Nat.le_refl _) _
       have HTC := hide (HT.out M W1 (hs1.below hb2) (some ⟨w1.heap.size, 0, none⟩) (aw_tree (t := 30) g1 (Nat.ne_of_gt hs1.lt)))
       have HB1 := hide (bstep hb1 hb2)
       have HW1 := hide hW1
       have HM := hide hM
       clear hs1 hb1 hb2 g1 hW1 hM HT c0 c1 c2)
    | (go_at_call 12
       rw [HW1.out]
       refine HTC.out.mono ?_
       rintro e w3 ⟨l, C, cc, hsp, hl, rfl, hown, c', hsr⟩
       obtain rfl := HRES.out l hsp
       have hown2 : OwnInt w3 W1.heap.size C cc zs := by rw [← hzs]; exact hown
       have hlen : (chgT kind 0 awSp (awSp.length - 1)).length = m := by rw [← hm, ← hzs]; rfl
       rw [hlen]
       have HF := hide (show AwPost zs m w (.returned (.slice C m cc)) w3 from ⟨C, cc, rfl, hown2.ats, HB1.out.trans (hsr.2.below HB1.out.size (fun k e => by injection e with e; have := HM.out; omega))⟩)
       clear hsp hl hown hown2 hsr hlen)
  go_ret
  exact HF.out
theorem chain3e (w : World) (a b c : Obj) {V : World} (hV : ((w.alloc a).alloc b).alloc c = V) : V.heap[w.heap.size]? = some a ∧ V.heap[w.heap.size + 1]? = some b ∧ V.heap[w.heap.size + 1 + 1]? = some c ∧ Below w.heap.size w V := by
  subst hV
  have s1 : (w.alloc a).heap.size = w.heap.size + 1 := World.size_alloc _ _
  have s2 : ((w.alloc a).alloc b).heap.size = w.heap.size + 1 + 1 := by rw [World.size_alloc, s1]
  have n0 := heap_alloc_new w a
  have n1 := heap_alloc_new (w.alloc a) b
  have n2 := heap_alloc_new ((w.alloc a).alloc b) c
  rw [s1] at n1
  rw [s2] at n2
  exact ⟨box_alloc (box_alloc n0), box_alloc n1, n2, ((((Below.refl _ _).alloc (Nat.le_refl _) _).alloc (by omega) _).alloc (by omega) _)⟩

set_option maxRecDepth 100000 in
set_option maxHeartbeats 8000000 in
theorem awake53 : Awake53 := by
  intro w
  obtain ⟨W3, hW3⟩ : ∃ W3, ((w.alloc (.cells #[.int .i64 2, .string ⟨#[48]⟩, .int .i64 5, .string ⟨#[49]⟩, .int .i64 8, .string ⟨#[122]⟩] 67)).alloc (.cells #[.int .i64 0, .int .i64 1, .slice (some ⟨w.heap.size, 0, none⟩) 3 3] 70)).alloc (.cells #[.slice (some ⟨w.heap.size + 1, 0, none⟩) 1 1, .slice none 0 0, .int .i64 9] 27) = W3 := ⟨_, rfl⟩
  obtain ⟨g0, g1, g2, hb3⟩ := chain3e _ _ _ _ hW3
  have hS : SigsAt W3 (Lo W3.heap.size) (some ⟨w.heap.size + 1, 0, none⟩) [awSg (some ⟨w.heap.size, 0, none⟩) 3] := by
    refine ⟨row_blk g1 (fun x => by cases x; rfl) (by simp [awSg, cSgn, awChs]) (box_lt g1), fun s hs => ?_⟩
    cases List.mem_singleton.1 hs
    exact row_blk g0 (fun x => by cases x; rfl) (by simp [awSg, cChg, awChs]) (box_lt g0)
  have OF := hide (fun (kind : Int) (zs : List Int) (m : Nat) (hk : 37 ≤ kind ∧ kind ≤ 41) (hzs : chgT kind 0 awSp 3 = zs) (hm : zs.length = m) (W : World) (hb : Below W3.heap.size W3 W) =>
    aw_of kind zs m hk hzs hm (some ⟨w.heap.size, 0, none⟩) (some ⟨w.heap.size + 1, 0, none⟩) (w.heap.size + 1 + 1) W ((hb.block _ (box_lt g2)).trans g2) ((hS.stay (stay_below hb fun _ h => h)).more fun _ h => Nat.lt_of_lt_of_le h hb.size))
  have IN := hide (fun (W : World) (C : Option Addr) (cc m : Nat) (zs : List Int) (cs : Array Value) (hi : IntsAt W W.heap.size C zs) (hm : zs.length = m) (hc : cs = (zs.map (Value.int .i64)).toArray) (hl : m ≤ 4398046511104) =>
    ints_two C (some ⟨W.heap.size, 0, none⟩) cc m m zs hm (W.alloc (.cells cs 3)) (hi.step ((Below.refl _ _).alloc (Nat.le_refl _) _)) (ints_blk (heap_alloc_new W _) hc) hl)
  have AL := hide (fun (W : World) (o : Obj) => show Below W.heap.size W (W.alloc o) from (Below.refl _ _).alloc (Nat.le_refl _) _)
  have HB3 := hide hb3
  have HW3 := hide hW3
  clear g0 g1 g2 hb3 hS hW3
  go_enter Tryz.func8, Tryz.ntmps8
  go_upto_region 2 with (fail)
  rw [HW3.out]
  go_wp2_with (go_at_call 24; refine (OF.out 37 [5] 1 (by decide) aw_37 rfl _ (Below.refl _ _)).mono ?_; rintro e w4 ⟨C4, c4, rfl, hi4, hb4⟩; have HI4 := hide hi4; have HB4 := hide hb4; clear hi4 hb4)
  refine (IN.out w4 C4 c4 1 [5] _ HI4.out rfl rfl (by decide)).mono ?_
  rintro e w5 ⟨rfl, hb5⟩
  have HB5 := hide (bstep HB4.out (bstep (AL.out _ _) hb5))
  clear hb5 HI4 HB4
  go_wp2_with (go_at_call 24; refine (OF.out 40 [2, 8] 2 (by decide) aw_40 rfl _ HB5.out).mono ?_; rintro e w6 ⟨C6, c6, rfl, hi6, hb6⟩; have HI6 := hide hi6; have HB6 := hide (bstep HB5.out hb6); clear hi6 hb6)
  refine (IN.out w6 C6 c6 2 [2, 8] _ HI6.out rfl rfl (by decide)).mono ?_
  rintro e w7 ⟨rfl, hb7⟩
  have HB7 := hide (bstep HB6.out (bstep (AL.out _ _) hb7))
  clear hb7 HI6 HB6
  go_wp2_with (go_at_call 24; refine (OF.out 39 [5] 1 (by decide) aw_39 rfl _ HB7.out).mono ?_; rintro e w8 ⟨C8, c8, rfl, hi8, hb8⟩; have HI8 := hide hi8; have HB8 := hide (bstep HB7.out hb8); clear hi8 hb8)
  refine (IN.out w8 C8 c8 1 [5] _ HI8.out rfl rfl (by decide)).mono ?_
  rintro e w9 ⟨rfl, hb9⟩
  have HB9 := hide (bstep HB8.out (bstep (AL.out _ _) hb9))
  clear hb9 HI8 HB8
  go_wp2_with (go_at_call 24; refine (OF.out 41 [2, 5, 8] 3 (by decide) aw_41 rfl _ HB9.out).mono ?_; rintro e wa ⟨Ca, ca, rfl, hia, hba⟩; have HIa := hide hia; have HBa := hide (bstep HB9.out hba); clear hia hba)
  refine (IN.out wa Ca ca 3 [2, 5, 8] _ HIa.out rfl rfl (by decide)).mono ?_
  rintro e wb ⟨rfl, hbb⟩
  have HBb := hide (bstep HB3.out (bstep HBa.out (bstep (AL.out _ _) hbb)))
  clear hbb HIa HBa
  go_wp2_with fail
  go_ret
  exact ⟨rfl, HBb.out⟩

end Go.Proofs.YtbhcmnfeeogdhaaGreatDoor

/-
  The walk of EventKinds, in the order in which the lift hands on what it has read.
-/
namespace Go.Proofs.YtbhcmnfeeogdhaaGreatDoor
open Go.ChangeShapes Go.WideShapes Go.ChangeAt Go.RowKit Go.Deep

theorem kinds_walk (kind : Int) (a b : ByteArray) (W : World) (h : I64 kind) (_ : a.size ≤ maxLen) (_ : b.size ≤ maxLen) :
    Calls Tryz.prog 3 #[.int .i64 kind, .string a, .string b] W (fun e w' => e = .returned (.bool true) ∧ Below W.heap.size W w') :=
  kinds_all awake53 kind a b W h

end Go.Proofs.YtbhcmnfeeogdhaaGreatDoor
