/-
  Several texts in one: EAwP, EAwake. Each says at its head what it holds.
-/
import Derived.Test.YtaaplalfggofiaaGreatDoorEC29
import Derived.Test.YtaaplalfggofiaaGreatDoorEC30
import Derived.Test.YtaaplalfggofiaaGreatDoorEC31
import Derived.Test.YtaaplalfggofiaaGreatDoorEC32

/-
  The example of the chapter on events: its wave, in plain Lean.
-/
namespace Go.Proofs.YtaaplalfggofiaaGreatDoor
open Go.RowKit

def awChs : List Chg := [⟨2, ⟨#[48]⟩⟩, ⟨5, ⟨#[49]⟩⟩, ⟨8, ⟨#[122]⟩⟩]
def awSg (A : Option Addr) (c : Nat) : Sgn := ⟨0, 1, A, c, awChs⟩
def awWv (A : Option Addr) (c : Nat) (S : Option Addr) (sc : Nat) : Wv := ⟨S, sc, [awSg A c], none, 0, 0, 9⟩
def awSp : List Spn := [⟨0, 1, ⟨#[120]⟩⟩, ⟨2, 4, ⟨#[48]⟩⟩, ⟨5, 7, ⟨#[49]⟩⟩, ⟨8, 9, ⟨#[122]⟩⟩]
theorem aw_val (A : Option Addr) (c : Nat) (t : Int) : valS (awSg A c) t = if 8 ≤ t then ⟨#[122]⟩ else if 5 ≤ t then ⟨#[49]⟩ else if 2 ≤ t then ⟨#[48]⟩ else ⟨#[120]⟩ := rfl
theorem aw_spans (A : Option Addr) (c : Nat) : Spans (valS (awSg A c)) 0 9 awSp := by
  refine ⟨rfl, by decide, fun t h1 h2 => ?_, by decide, rfl, by decide, fun t h1 h2 => ?_, by decide, rfl, by decide, fun t h1 h2 => ?_, by decide, rfl, rfl, by decide, fun t h1 h2 => ?_⟩
  all_goals
    dsimp only [awSp] at h1 h2
    rw [aw_val]
  · rw [if_neg (by omega), if_neg (by omega), if_neg (by omega)]
  · rw [if_neg (by omega), if_neg (by omega), if_pos (by omega)]
  · rw [if_neg (by omega), if_pos (by omega)]
  · rw [if_pos (by omega)]
def awX : Nd := .mk 1 0 ⟨#[]⟩ ⟨#[]⟩ 0 1 0 0 none 0 []
theorem aw_type : typeF awX = some (0, 1) := by
  unfold awX
  rw [typeF_mk]
  rfl
theorem aw_small (A : Option Addr) (c : Nat) (S : Option Addr) (sc : Nat) : SmallOk (awWv A c S sc) := by
  refine ⟨by simp [awWv], by simp [awWv], fun s hs => ?_⟩
  simp only [awWv, List.mem_singleton] at hs
  subst hs
  refine ⟨by simp [awSg], by simp [awSg], by simp [awSg, awChs], ?_, fun x hx => ?_⟩
  · show awChs.Pairwise fun a b => a.time < b.time
    unfold awChs
    decide
  · simp only [awSg, awChs, List.mem_cons, List.not_mem_nil, or_false] at hx
    rcases hx with rfl | rfl | rfl
    all_goals exact ⟨by simp, by simp [awWv], fun _ => ⟨rfl, rfl⟩, by decide⟩
theorem aw_ok : okF awX := by
  rw [okF_eq]
  exact ⟨by simp [awX, I64, Nd.kind, Nd.a, Nd.b, Nd.c, Nd.d], fun k hk => by cases hk⟩
theorem aw_few : FewOk 60 awX := by
  rw [FewOk_eq]
  have h1 : nodesF awX = 1 := by
    unfold nodesF
    rw [Nd.fold_eq]
    rfl
  exact ⟨by decide, by decide, by omega, fun k hk => by cases hk⟩
theorem aw_sigs : sigF awX = [0] := by
  rw [sigF_eq]
  rfl
def awN (kind : Int) (KA : Option Addr) (kc : Nat) : Nd := .mk kind 0 ⟨#[]⟩ ⟨#[]⟩ 0 0 0 0 KA kc [awX]
theorem aw_nok (kind : Int) (hk : 37 ≤ kind ∧ kind ≤ 41) (KA : Option Addr) (kc : Nat) : okF (awN kind KA kc) := by
  rw [okF_eq]
  refine ⟨?_, fun k h => ?_⟩
  · simp only [awN, Nd.kind, Nd.a, Nd.b, Nd.c, Nd.d, I64]
    omega
  · simp only [awN, Nd.kids, List.mem_singleton] at h
    subst h
    exact aw_ok
theorem aw_nsigs (kind : Int) (hk : 37 ≤ kind ∧ kind ≤ 41) (KA : Option Addr) (kc : Nat) : sigF (awN kind KA kc) = [0] := by
  have hn : ¬ (awN kind KA kc).kind = 1 := by show ¬ kind = 1; omega
  have hm : (awN kind KA kc).kids.map sigF = [[0]] := by show [sigF awX] = _; rw [aw_sigs]
  rw [sigF_eq, hm]
  unfold sigB
  rw [if_neg hn]
  rfl
theorem aw_agr : agrF 0 0 1 awX = true := by
  rw [agrF_eq]
  rfl
theorem aw_nagr (kind : Int) (hk : 37 ≤ kind ∧ kind ≤ 41) (KA : Option Addr) (kc : Nat) (x k w : Int) : agrF x k w (awN kind KA kc) = agrF x k w awX := by
  unfold awN
  rw [agrF_mk, decide_eq_false (show ¬ kind = 1 by omega)]
  simp
theorem aw_nodes (kind : Int) (KA : Option Addr) (kc : Nat) : nodesF (awN kind KA kc) ≤ 60 := by
  have h1 : nodesF awX = 1 := by
    unfold nodesF
    rw [Nd.fold_eq]
    rfl
  have h2 : nodesF (awN kind KA kc) = 2 := by
    unfold nodesF
    rw [Nd.fold_eq]
    show 1 + sumF [nodesF awX] = 2
    rw [h1]
    rfl
  omega
theorem aw_fit (A : Option Addr) (c : Nat) (S : Option Addr) (sc : Nat) : ∀ y ∈ sigF awX, sigE (awWv A c S sc) awX y = 0 := by
  intro y hy
  rw [aw_sigs, List.mem_singleton] at hy
  subst hy
  unfold sigE
  rw [if_neg (by simp [awWv]), show sgnAt (awWv A c S sc) 0 = awSg A c from rfl]
  show (if agrF 0 0 1 awX then (0 : Int) else 7) = 0
  rw [aw_agr]
  rfl
theorem aw_nfit (kind : Int) (hk : 37 ≤ kind ∧ kind ≤ 41) (KA : Option Addr) (kc : Nat) (A : Option Addr) (c : Nat) (S : Option Addr) (sc : Nat) : ∀ y ∈ sigF (awN kind KA kc), sigE (awWv A c S sc) (awN kind KA kc) y = 0 := by
  intro y hy
  have h := aw_fit A c S sc y (by rw [aw_nsigs kind hk] at hy; rw [aw_sigs]; exact hy)
  unfold sigE at h ⊢
  rw [aw_nagr kind hk]
  exact h
theorem aw_nev (kind : Int) (hk : 37 ≤ kind ∧ kind ≤ 41) (KA : Option Addr) (kc : Nat) : ∀ y ∈ sigF (awN kind KA kc), ∀ k e, agrF y k e (awN kind KA kc) = true → k ≠ 3 := by
  intro y hy k e h
  rw [aw_nsigs kind hk, List.mem_singleton] at hy
  subst hy
  rw [aw_nagr kind hk] at h
  unfold awX at h
  rw [agrF_mk] at h
  rintro rfl
  simp at h

end Go.Proofs.YtaaplalfggofiaaGreatDoor

/-
  wavestorelaw53.awake: true.
-/
namespace Go.Proofs.YtaaplalfggofiaaGreatDoor
open Go.RowKit

theorem row_blk {α : Type} {w : World} {P : Nat → Prop} {N m : Nat} {cs : Array Value} {t : TypeId} {cells : α → List Value} {xs : List α} (h : w.heap[N]? = some (.cells cs t (0, 0))) (hf : ∀ x, (cells x).length = m) (hc : cs = (xs.flatMap cells).toArray) (hp : P N) : Row w P m cells (some ⟨N, 0, none⟩) xs := fun _ => by
  refine ⟨N, 0, rfl, hp, fun i x hi j hj => ?_⟩
  rw [Nat.zero_add, cell_of_row w N _ cs t (0, 0) h, hc, List.getElem?_toArray]
  exact flat_at cells m hf hi hj
theorem ints_blk {w : World} {N : Nat} {cs : Array Value} {t : TypeId} {zs : List Int} (h : w.heap[N]? = some (.cells cs t (0, 0))) (hc : cs = (zs.map (Value.int .i64)).toArray) : IntsAt w w.heap.size (some ⟨N, 0, none⟩) zs := fun _ => by
  refine ⟨N, 0, rfl, box_lt h, fun i z hi => ?_⟩
  rw [cell_of_row w N _ cs t (0, 0) h, hc, List.getElem?_toArray, Nat.zero_add, List.getElem?_map, hi]
  rfl
def IntsRelA (w : World) (xs : List Int) (i : Value) (wr : World) : Prop := ∃ k : Nat, k ≤ xs.length ∧ i = .int .i64 k ∧ Below w.heap.size w wr
set_option maxHeartbeats 1000000 in
theorem ints_eqA (A B : Option Addr) (c d : Nat) (xs : List Int) (w : World) (hx : IntsAt w w.heap.size A xs) (hy : IntsAt w w.heap.size B xs) (hl : xs.length ≤ 4398046511104) :
    Calls Tryz.prog 34 #[.slice A xs.length c, .slice B xs.length d] w fun e w' => e = .returned (.bool true) ∧ Below w.heap.size w w' := by
  go_enter Tryz.func34, Tryz.ntmps34
  go_wp2_with fail
  go_loopw [5] (fun i wr => IntsRelA w xs i wr) (fun i _ => xs.length - (intOf i).toNat)
  case atStart => exact ⟨0, Nat.zero_le _, rfl, Below.refl _ _⟩
  case round =>
    obtain ⟨k, hk, rfl, hb⟩ := hrel
    by_cases hlt : k < xs.length
    · obtain ⟨b, off, rfl, hbb, hc1⟩ := (hx.below hb).at_ hlt
      obtain ⟨b', off', rfl, hbb', hc1'⟩ := (hy.below hb).at_ hlt
      have hd1 : decide ((k : Int) < (xs.length : Int)) = true := decide_eq_true (by omega)
      have hq0 : (0 : Int) ≤ (k : Int) := by omega
      go_wp2_with fail
      go_quiet (fail)
      go_wp2_with fail
      go_roundw
      case rel => exact ⟨k + 1, by omega, by go_num, below_drewN hb _⟩
      case measure => simp [intOf]; omega
    · go_wp2_with fail
      go_ret
      exact ⟨rfl, hb⟩
theorem ints_two (A B : Option Addr) (c d n : Nat) (xs : List Int) (hn : xs.length = n) (w : World) (hx : IntsAt w w.heap.size A xs) (hy : IntsAt w w.heap.size B xs) (hl : n ≤ 4398046511104) :
    Calls Tryz.prog 34 #[.slice A n c, .slice B n d] w fun e w' => e = .returned (.bool true) ∧ Below w.heap.size w w' := by
  subst hn
  exact ints_eqA A B c d xs w hx hy hl
/-- the times of the example -/
def AwPost (zs : List Int) (n : Nat) (w : World) (e : Ending) (w' : World) : Prop := ∃ (C : Option Addr) (cc : Nat), e = .returned (.slice C n cc) ∧ IntsAt w' w'.heap.size C zs ∧ Below w.heap.size w w'
theorem aw_37 : chgT 37 0 awSp 3 = [5] := by simp [chgT, awSp, chg1, isEv, eq1_lit]
theorem aw_40 : chgT 40 0 awSp 3 = [2, 8] := by simp [chgT, awSp, chg1, isEv, eq1_lit, unkB]
theorem aw_39 : chgT 39 0 awSp 3 = [5] := by simp [chgT, awSp, chg1, isEv, eq1_lit, unkB]
theorem aw_41 : chgT 41 0 awSp 3 = [2, 5, 8] := by simp [chgT, awSp, chg1, isEv, ByteArray.toList_eq]
theorem aw_tree {w : World} {M K : Nat} {t : TypeId} (h : w.heap[K]? = some (.cells (cNd awX).toArray t (0, 0))) (hne : K ≠ M) : TreesAt w (Un M w.heap.size) (some ⟨K, 0, none⟩) [awX] := by
  refine .mk _ _ (by simp) (row_blk h (fun x => by cases x; rfl) (by simp) ⟨box_lt h, hne⟩) fun k hk => ?_
  cases List.mem_singleton.1 hk
  exact .mk _ _ (by simp [awX, Nd.kids]) (fun h => absurd rfl h) fun k hk => by cases hk
theorem aw_res (A : Option Addr) (c : Nat) (S : Option Addr) (sc : Nat) {l : List Spn} (h : Spans (fun u => valF (envW (awWv A c S sc) u) awX) (max (0 - 1) 0) 9 l) : l = awSp := by
  have h0 : (fun u => valF (envW (awWv A c S sc) u) awX) = valS (awSg A c) := by
    funext u
    unfold awX
    rw [valF_mk, if_pos rfl]
    rfl
  rw [h0] at h
  exact h.uniq (aw_spans A c)

set_option maxRecDepth 100000 in
set_option maxHeartbeats 8000000 in
theorem aw_of (kind : Int) (zs : List Int) (m : Nat) (hk : 37 ≤ kind ∧ kind ≤ 41) (hzs : chgT kind 0 awSp 3 = zs) (hm : zs.length = m) (A S : Option Addr) (B : Nat) (w : World) (hbox : w.heap[B]? = some (.cells #[.slice S 1 1, .slice none 0 0, .int .i64 9] 25 (0, 0))) (hS : SigsAt w (Lo w.heap.size) S [awSg A 3]) :
    Calls Tryz.prog 77 #[.int .i64 kind, .pointer (some ⟨B, 0, none⟩)] w (AwPost zs m w) := by
  have hv := aw_small A 3 S 1
  have HNEW := hide (show Calls Tryz.prog 18 #[.agg #[.slice S 1 1, .slice none 0 0, .int .i64 9]] w (fun e w' => ∃ M, e = .returned (.pointer (some ⟨M, 0, none⟩)) ∧ w.heap.size ≤ M ∧ SourceAt w' M (awWv A 3 S 1) (-1) 0 ∧ Below w.heap.size w w') from new_any (awWv A 3 S 1) w hS)
  have HT := hide (fun (M : Nat) (W : World) (h : SourceAt W M (awWv A 3 S 1) (-1) 0) (KA : Option Addr) (ht : TreesAt W (Un M W.heap.size) KA [awX]) =>
    times_simple (awWv A 3 S 1) 0 M kind 0 ⟨#[]⟩ ⟨#[]⟩ 0 0 0 0 KA 1 awX 0 9 W h hv ht (aw_nok kind hk KA 1) aw_ok aw_few (aw_nodes kind KA 1) (aw_nev kind hk KA 1) (aw_nfit kind hk KA 1 A 3 S 1) (by decide) (by decide) ⟨_, aw_type⟩ (by rw [aw_type]; split <;> rfl) (aw_fit A 3 S 1) hk (by decide) (by decide) (show (9 : Int) ≤ 9 by decide))
  have c0 : w.cell? ⟨B, 0, none⟩ = some (.slice S 1 1) := by rw [cell_of_row w B _ _ _ (0, 0) hbox]; rfl
  have c1 : w.cell? ⟨B, 1, none⟩ = some (.slice none 0 0) := by rw [cell_of_row w B _ _ _ (0, 0) hbox]; rfl
  have c2 : w.cell? ⟨B, 2, none⟩ = some (.int .i64 9) := by rw [cell_of_row w B _ _ _ (0, 0) hbox]; rfl
  have HRES := hide (fun (l : List Spn) => aw_res A 3 S 1 (l := l))
  clear hv hS hbox hk
  unfold srcV at HT
  go_enter Tryz.func77, Tryz.ntmps77
  go_wp2_with first
    | (go_at_call 18
       refine HNEW.out.mono ?_
       rintro e w1 ⟨M, rfl, hM, hs1, hb1⟩
       obtain ⟨W1, hW1⟩ : ∃ W1, w1.alloc (.cells #[.int .i64 1, .int .i64 0, .string ⟨#[]⟩, .string ⟨#[]⟩, .int .i64 0, .int .i64 1, .int .i64 0, .int .i64 0, .slice none 0 0] 28) = W1 := ⟨_, rfl⟩
       have g1 := new_at hW1
       have hb2 : Below w1.heap.size w1 W1 := by rw [← hW1]; exact (Below.refl _ _).alloc (Nat.le_refl _) _
       have HTC := hide (HT.out M W1 (hs1.below hb2) (some ⟨w1.heap.size, 0, none⟩) (aw_tree (t := 28) g1 (Nat.ne_of_gt hs1.lt)))
       have HB1 := hide (bstep hb1 hb2)
       have HW1 := hide hW1
       have HM := hide hM
       clear hs1 hb1 hb2 g1 hW1 hM HT c0 c1 c2)
    | (go_at_call 32
       rw [HW1.out]
       refine HTC.out.mono ?_
       rintro e w3 ⟨l, C, cc, hsp, hl, rfl, hown, c', hsr⟩
       obtain rfl := HRES.out l hsp
       have hown2 : OwnInt w3 W1.heap.size C cc zs := by rw [← hzs]; exact hown
       have hlen : (chgT kind 0 awSp (awSp.length - 1)).length = m := by rw [← hm, ← hzs]; rfl
       rw [hlen]
       have HF := hide (show AwPost zs m w (.returned (.slice C m cc)) w3 from ⟨C, cc, rfl, hown2.ats, HB1.out.trans (hsr.2.below HB1.out.size (fun k e => by injection e with e; have := HM.out; omega))⟩)
       clear hsp hl hown hown2 hsr hlen)
  go_ret
  exact HF.out
theorem chain3e (w : World) (a b c : Obj) {V : World} (hV : ((w.alloc a).alloc b).alloc c = V) : V.heap[w.heap.size]? = some a ∧ V.heap[w.heap.size + 1]? = some b ∧ V.heap[w.heap.size + 1 + 1]? = some c ∧ Below w.heap.size w V := by
  subst hV
  have s1 : (w.alloc a).heap.size = w.heap.size + 1 := World.size_alloc _ _
  have s2 : ((w.alloc a).alloc b).heap.size = w.heap.size + 1 + 1 := by rw [World.size_alloc, s1]
  have n0 := heap_alloc_new w a
  have n1 := heap_alloc_new (w.alloc a) b
  have n2 := heap_alloc_new ((w.alloc a).alloc b) c
  rw [s1] at n1
  rw [s2] at n2
  exact ⟨box_alloc (box_alloc n0), box_alloc n1, n2, ((((Below.refl _ _).alloc (Nat.le_refl _) _).alloc (by omega) _).alloc (by omega) _)⟩

set_option maxRecDepth 100000 in
set_option maxHeartbeats 8000000 in
theorem awake53 : Awake53 := by
  intro w
  obtain ⟨W3, hW3⟩ : ∃ W3, ((w.alloc (.cells #[.int .i64 2, .string ⟨#[48]⟩, .int .i64 5, .string ⟨#[49]⟩, .int .i64 8, .string ⟨#[122]⟩] 131)).alloc (.cells #[.int .i64 0, .int .i64 1, .slice (some ⟨w.heap.size, 0, none⟩) 3 3] 49)).alloc (.cells #[.slice (some ⟨w.heap.size + 1, 0, none⟩) 1 1, .slice none 0 0, .int .i64 9] 25) = W3 := ⟨_, rfl⟩
  obtain ⟨g0, g1, g2, hb3⟩ := chain3e _ _ _ _ hW3
  have hS : SigsAt W3 (Lo W3.heap.size) (some ⟨w.heap.size + 1, 0, none⟩) [awSg (some ⟨w.heap.size, 0, none⟩) 3] := by
    refine ⟨row_blk g1 (fun x => by cases x; rfl) (by simp [awSg, cSgn, awChs]) (box_lt g1), fun s hs => ?_⟩
    cases List.mem_singleton.1 hs
    exact row_blk g0 (fun x => by cases x; rfl) (by simp [awSg, cChg, awChs]) (box_lt g0)
  have OF := hide (fun (kind : Int) (zs : List Int) (m : Nat) (hk : 37 ≤ kind ∧ kind ≤ 41) (hzs : chgT kind 0 awSp 3 = zs) (hm : zs.length = m) (W : World) (hb : Below W3.heap.size W3 W) =>
    aw_of kind zs m hk hzs hm (some ⟨w.heap.size, 0, none⟩) (some ⟨w.heap.size + 1, 0, none⟩) (w.heap.size + 1 + 1) W ((hb.block _ (box_lt g2)).trans g2) ((hS.stay (stay_below hb fun _ h => h)).more fun _ h => Nat.lt_of_lt_of_le h hb.size))
  have IN := hide (fun (W : World) (C : Option Addr) (cc m : Nat) (zs : List Int) (cs : Array Value) (hi : IntsAt W W.heap.size C zs) (hm : zs.length = m) (hc : cs = (zs.map (Value.int .i64)).toArray) (hl : m ≤ 4398046511104) =>
    ints_two C (some ⟨W.heap.size, 0, none⟩) cc m m zs hm (W.alloc (.cells cs 3)) (hi.step ((Below.refl _ _).alloc (Nat.le_refl _) _)) (ints_blk (heap_alloc_new W _) hc) hl)
  have AL := hide (fun (W : World) (o : Obj) => show Below W.heap.size W (W.alloc o) from (Below.refl _ _).alloc (Nat.le_refl _) _)
  have HB3 := hide hb3
  have HW3 := hide hW3
  clear g0 g1 g2 hb3 hS hW3
  go_enter Tryz.func31, Tryz.ntmps31
  go_upto_region 2 with (fail)
  rw [HW3.out]
  go_wp2_with (go_at_call 77; refine (OF.out 37 [5] 1 (by decide) aw_37 rfl _ (Below.refl _ _)).mono ?_; rintro e w4 ⟨C4, c4, rfl, hi4, hb4⟩; have HI4 := hide hi4; have HB4 := hide hb4; clear hi4 hb4)
  refine (IN.out w4 C4 c4 1 [5] _ HI4.out rfl rfl (by decide)).mono ?_
  rintro e w5 ⟨rfl, hb5⟩
  have HB5 := hide (bstep HB4.out (bstep (AL.out _ _) hb5))
  clear hb5 HI4 HB4
  go_wp2_with (go_at_call 77; refine (OF.out 40 [2, 8] 2 (by decide) aw_40 rfl _ HB5.out).mono ?_; rintro e w6 ⟨C6, c6, rfl, hi6, hb6⟩; have HI6 := hide hi6; have HB6 := hide (bstep HB5.out hb6); clear hi6 hb6)
  refine (IN.out w6 C6 c6 2 [2, 8] _ HI6.out rfl rfl (by decide)).mono ?_
  rintro e w7 ⟨rfl, hb7⟩
  have HB7 := hide (bstep HB6.out (bstep (AL.out _ _) hb7))
  clear hb7 HI6 HB6
  go_wp2_with (go_at_call 77; refine (OF.out 39 [5] 1 (by decide) aw_39 rfl _ HB7.out).mono ?_; rintro e w8 ⟨C8, c8, rfl, hi8, hb8⟩; have HI8 := hide hi8; have HB8 := hide (bstep HB7.out hb8); clear hi8 hb8)
  refine (IN.out w8 C8 c8 1 [5] _ HI8.out rfl rfl (by decide)).mono ?_
  rintro e w9 ⟨rfl, hb9⟩
  have HB9 := hide (bstep HB8.out (bstep (AL.out _ _) hb9))
  clear hb9 HI8 HB8
  go_wp2_with (go_at_call 77; refine (OF.out 41 [2, 5, 8] 3 (by decide) aw_41 rfl _ HB9.out).mono ?_; rintro e wa ⟨Ca, ca, rfl, hia, hba⟩; have HIa := hide hia; have HBa := hide (bstep HB9.out hba); clear hia hba)
  refine (IN.out wa Ca ca 3 [2, 5, 8] _ HIa.out rfl rfl (by decide)).mono ?_
  rintro e wb ⟨rfl, hbb⟩
  have HBb := hide (bstep HB3.out (bstep HBa.out (bstep (AL.out _ _) hbb)))
  clear hbb HIa HBa
  go_wp2_with fail
  go_ret
  exact ⟨rfl, HBb.out⟩

end Go.Proofs.YtaaplalfggofiaaGreatDoor
