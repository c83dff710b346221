/-
  Several texts in one: EvkW, MapV, Append, RefSets, TruCut, RFits, SampP, ESamp, Aw53D, HasI. Each says at its head what it holds.
-/
import Derived.Test.YtaaplalfggofiaaGreatDoorEC31
import Derived.Test.YtaaplalfggofiaaGreatDoorEC17
import Derived.Test.YtaaplalfggofiaaGreatDoorEC7
import Derived.Test.YtaaplalfggofiaaGreatDoorEC29
import Derived.Deep.RegionHeld3
import Derived.Deep.DeepCutAuto
import Derived.Deep.CutBlock
import Derived.Test.YtaaplalfggofiaaGreatDoorEC18
import Derived.Test.YtaaplalfggofiaaGreatDoorEC14
import Derived.Test.YtaaplalfggofiaaGreatDoorEC6
import Derived.Test.YtaaplalfggofiaaGreatDoorEC5
import Derived.Test.YtaaplalfggofiaaGreatDoorEC20
import Derived.Deep.RegionLaw
import Derived.Test.YtaaplalfggofiaaGreatDoorEC30
import Derived.Test.YtaaplalfggofiaaGreatDoorEC21
import Derived.Test.YtaaplalfggofiaaGreatDoorShelf

/-
  event.Times at the events over a value of one bit, where all signals fit.
-/
namespace Go.Proofs.YtaaplalfggofiaaGreatDoor
open Go.RowKit

theorem row_node {w : World} {M K : Nat} {n : Nd} {t : TypeId} (hk : w.heap[K]? = some (.cells (cNd n).toArray t (0, 0))) (hp : K < w.heap.size ∧ K ≠ M) : Row w (Un M w.heap.size) 9 cNd (some ⟨K, 0, none⟩) [n] := fun _ => by
  refine ⟨K, 0, rfl, hp, fun i x hi j hj => ?_⟩
  cases i with
  | zero =>
    cases hi
    rw [cell_of_row w K _ _ t (0, 0) hk]
    simp
  | succ i => cases hi
theorem trees_node {w : World} {M K : Nat} {n : Nd} {t : TypeId} (hk : w.heap[K]? = some (.cells (cNd n).toArray t (0, 0))) (hp : K < w.heap.size ∧ K ≠ M) (h : TreesAt w (Un M w.heap.size) n.KA n.kids) : TreesAt w (Un M w.heap.size) (some ⟨K, 0, none⟩) [n] :=
  .mk _ _ (by simp) (row_node hk hp) fun k hk => by cases List.mem_singleton.1 hk; exact h
theorem times_ev (v : Wv) (n : Nd) (kind f t : Int) (M K : Nat) (tt : TypeId) (w : World) (h : SourceAt w M v (-1) 0) (hK : w.heap[K]? = some (.cells (cNd n).toArray tt (0, 0))) (hKM : K ≠ M) (hv : SmallOk v) (hf : FewOk 40 n) (ht : TreesAt w (Un M w.heap.size) n.KA n.kids) (hok : okF n) (hty : typeF n = some (0, 1)) (hfit : ∀ x ∈ sigF n, sigE v n x = 0) (hk : 37 ≤ kind ∧ kind ≤ 41) (hr : inR v f t) :
    Calls Tryz.prog 32 #[srcV M, .agg #[.int .i64 kind, .int .i64 0, .string ⟨#[]⟩, .string ⟨#[]⟩, .int .i64 0, .int .i64 0, .int .i64 0, .int .i64 0, .slice (some ⟨K, 0, none⟩) 1 1], .int .i64 f, .int .i64 t] w fun e w' =>
      ∃ (l : List Spn) (A : Option Addr) (c : Nat), Spans (fun u => valF (envW v u) n) (max (f - 1) 0) t l ∧ l.length ≤ 4001 ∧ e = .returned (.tuple #[.slice A (evs kind f l).length c, .int .i64 0]) ∧ OwnInt w' w.heap.size A c (evs kind f l) ∧ ∃ c', SrcTo w M v (-1) c' w' := by
  refine (times_simple v 0 M kind 0 ⟨#[]⟩ ⟨#[]⟩ 0 0 0 0 (some ⟨K, 0, none⟩) 1 n f t w h hv (trees_node hK ⟨box_lt hK, hKM⟩ ht) (evk_ok hk _ _ n hok) hok (few_mono (by decide) n hf) (by have := evk_nodes (kind := kind) (some ⟨K, 0, none⟩) 1 n; have := hf.nodes; unfold evK at *; omega) (evk_nev hk _ _ n ⟨_, hty⟩) (evk_fit hk _ _ n hfit) (by decide) (by decide) ⟨_, hty⟩ (by rw [hty]; split <;> rfl) hfit hk hr.1 hr.2.1 hr.2.2).mono ?_
  rintro e w' ⟨l, A, c, h1, h2, rfl, h3, h4⟩
  rw [chgT_evs] at h3 ⊢
  exact ⟨l, A, c, h1, h2, rfl, h3, h4⟩

end Go.Proofs.YtaaplalfggofiaaGreatDoor

/-
  Maps from int to lists of ints that the call has made: the values themselves, key by key.
-/
namespace Go.Proofs.YtaaplalfggofiaaGreatDoor
open Go.RowKit

def heldR : Value → Option (DataW Value × List MemPlace) := fun v => some (.held v, [])
/-- block B is a map that holds m's values; what it lacks is z -/
def MapV (w : World) (B n : Nat) (z : Value) (m : Int → Value) : Prop :=
  ∃ D : DataW Value, w.ownsMap Tryz.prog 3 heldR B n D ∧ ∀ i, I64 i → D.atKey (.int .i64 i) (.held z) = .held (m i)
theorem zeroIn (w : World) : (zeroValue 57).run Tryz.prog w = .ok (.slice none 0 0) w := by kernel_rfl
section
variable {w w' : World} {B n : Nat} {z : Value} {m : Int → Value}
theorem MapV.made (w : World) (z : Value) : MapV (w.alloc (.map #[] 0)) w.heap.size 0 z (fun _ => z) :=
  ⟨.map [], World.ownsMap_made _ _ _ _, fun _ _ => rfl⟩
theorem MapV.block (h : MapV w B n z m) (hb : w'.heap[B]? = w.heap[B]?) : MapV w' B n z m := by
  obtain ⟨D, ⟨es, clock, h1, h3⟩, h2⟩ := h
  exact ⟨D, ⟨es, clock, hb.trans h1, h3⟩, h2⟩
theorem MapV.lt (h : MapV w B n z m) : B < w.heap.size := by
  obtain ⟨D, h1, _⟩ := h
  exact h1.lt
theorem MapV.obj (h : MapV w B n z m) : ∃ es clock, w.heap[B]? = some (.map es clock) := by
  obtain ⟨D, ⟨es, clock, h1, _⟩, _⟩ := h
  exact ⟨es, clock, h1⟩
/-- 'm[k]' -/
theorem MapV.look (h : MapV w B n (.slice none 0 0) m) {i : Int} (hi : I64 i) : (Instr.lookup 68 (.map (some B)) (.int .i64 i) false).run Tryz.prog w = .ok (m i) w := by
  obtain ⟨D, h1, h2⟩ := h
  obtain ⟨v, ps, hr, hv⟩ := h1.lookup intKeyB Tryz.underlying68 (zeroIn w) (zd := .held (.slice none 0 0)) (zp := []) rfl (keyOf_B hi)
  have h3 := h2 i hi
  have h4 := DataW.held.inj ((Prod.mk.inj (Option.some.inj (show some (DataW.held v, ([] : List MemPlace)) = _ from hv))).1.trans h3)
  rw [hr, h4]
/-- 'm[k] = v' -/
theorem MapV.put (h : MapV w B n z m) {i : Int} (hi : I64 i) (v : Value) (hn : n < maxLen) :
    ∃ w', (Instr.mapUpdate 68 (.map (some B)) (.int .i64 i) v).run Tryz.prog w = .ok () w' ∧ MapV w' B (n + 1) z (fun j => if j = i then v else m j) ∧ w.grownBy w' (some B) := by
  obtain ⟨D, h1, h2⟩ := h
  obtain ⟨w', hr, h3, h4⟩ := h1.update intKeyB Tryz.underlying68 hn (keyOf_B hi) (val := v) (d := .held v) (ps := []) rfl
  refine ⟨w', hr, ⟨_, h3, fun j hj => ?_⟩, h4⟩
  have hM := h1.isMap
  show _ = DataW.held (if j = i then v else m j)
  by_cases e : j = i
  · subst e
    rw [if_pos rfl, Maps.atKey_put_same hM (by trivial) _ _]
  · have hne : (Lit.int .i64 j) ≠ .int .i64 i := fun h => e (by injection h)
    rw [if_neg e, Maps.atKey_put_other hne]
    exact h2 j hj
end

end Go.Proofs.YtaaplalfggofiaaGreatDoor

/-
  append of a whole slice, wherever it lies, onto a row of the call's own.
-/
namespace Go.Proofs.YtaaplalfggofiaaGreatDoor
open Go.RowKit Go.Joins

theorem IntsAt.src {w : World} {B : Nat} {A : Option Addr} {zs : List Int} (h : IntsAt w B A zs) : zs.map (Value.int .i64) ≠ [] → ∃ b off, A = some ⟨b, off, none⟩ ∧ ∀ j u, (zs.map (Value.int .i64))[j]? = some u → w.cell? ⟨b, off + j, none⟩ = some u := by
  intro hne
  obtain ⟨b, off, e, _, hc⟩ := h (fun e => hne (by rw [e]; rfl))
  refine ⟨b, off, e, fun j u hu => ?_⟩
  rw [List.getElem?_map] at hu
  cases hj : zs[j]? with
  | none => rw [hj] at hu; cases hu
  | some z =>
    rw [hj] at hu
    simp only [Option.map_some, Option.some.injEq] at hu
    subst hu
    exact hc j z hj

theorem OwnInt.empty (w : World) (base : Nat) (hb : base ≤ w.heap.size) : OwnInt (w.alloc (.cells #[] 3)) base (some ⟨w.heap.size, 0, none⟩) 0 [] := World.ownsRow_lit w #[] 0 hb (by simp [maxLen]) rfl
end Go.Proofs.YtaaplalfggofiaaGreatDoor

/-
  Plain mathematics of the reference's combination: sorted cuts, and the list that is built from them. No program in sight.
-/
namespace Go.Proofs.YtaaplalfggofiaaGreatDoor

theorem between {ps : List Int} (hs : ps.Pairwise (· < ·)) {i : Nat} (hi : i + 1 < ps.length) {v : Int} (hv : v ∈ ps) : v ≤ ps.getD i 0 ∨ ps.getD (i + 1) 0 ≤ v := by
  obtain ⟨j, hj, rfl⟩ := getD_of_mem hv
  rcases Nat.lt_trichotomy j i with h | h | h
  · exact .inl (Int.le_of_lt (getD_mono hs h (by omega)))
  · subst h; exact .inl (Int.le_refl _)
  · rcases Nat.lt_or_ge (i + 1) j with h' | h'
    · exact .inr (Int.le_of_lt (getD_mono hs h' hj))
    · have : j = i + 1 := by omega
      subst this; exact .inr (Int.le_refl _)

end Go.Proofs.YtaaplalfggofiaaGreatDoor

/-
  A region that makes a source of a wave and asks a condition of it: the words for it.
-/
namespace Go.Proofs.YtaaplalfggofiaaGreatDoor
open Go.RowKit

theorem but_step {W0 W1 W3 : World} {M : Nat} (q : Below W0.heap.size W0 W1) (hb : But W1.heap.size (some M) W1 W3) (hM : W0.heap.size ≤ M) : Below W0.heap.size W0 W3 := q.trans (hb.below q.size fun k e => by injection e with e; omega)
theorem below_al {W0 W : World} (h : Below W0.heap.size W0 W) (o : Obj) : Below W0.heap.size W0 (W.alloc o) := h.alloc h.size o
/-- a wave and a tree in boxes -/
theorem wn_held {W0 : World} {N M : Nat} {a0 a1 a2 b0 b1 b2 b3 b4 b5 b6 b7 b8 : Value} {t t' : TypeId} (h0 : W0.heap[N]? = some (.cells #[a0, a1, a2] t (0, 0))) (h1 : W0.heap[M]? = some (.cells #[b0, b1, b2, b3, b4, b5, b6, b7, b8] t' (0, 0))) (W : World) (hb : Below W0.heap.size W0 W) :
    W.cell? ⟨N, 0, none⟩ = some a0 ∧ W.cell? ⟨N, 1, none⟩ = some a1 ∧ W.cell? ⟨N, 2, none⟩ = some a2 ∧ W.cell? ⟨M, 0, none⟩ = some b0 ∧ W.cell? ⟨M, 1, none⟩ = some b1 ∧ W.cell? ⟨M, 2, none⟩ = some b2 ∧ W.cell? ⟨M, 3, none⟩ = some b3 ∧ W.cell? ⟨M, 4, none⟩ = some b4 ∧ W.cell? ⟨M, 5, none⟩ = some b5 ∧ W.cell? ⟨M, 6, none⟩ = some b6 ∧ W.cell? ⟨M, 7, none⟩ = some b7 ∧ W.cell? ⟨M, 8, none⟩ = some b8 ∧ Below W0.heap.size W0 W := by
  have g0 := (hb.block _ (box_lt h0)).trans h0
  have g1 := (hb.block _ (box_lt h1)).trans h1
  refine ⟨?_, ?_, ?_, ?_, ?_, ?_, ?_, ?_, ?_, ?_, ?_, ?_, hb⟩
  all_goals first | (rw [cell_of_row W N _ _ t (0, 0) g0]; rfl) | (rw [cell_of_row W M _ _ t' (0, 0) g1]; rfl)
end Go.Proofs.YtaaplalfggofiaaGreatDoor

/-
  wavestoreref51.Fits: the error of a tree for a wave.
-/
namespace Go.Proofs.YtaaplalfggofiaaGreatDoor
open Go.RowKit

theorem sigs_of {n : Nd} (hok : okF n) {zs : List Int} (hp : zs.Pairwise (· < ·)) (hm : ∀ u, u ∈ zs ↔ u ∈ sigF n) : SigsOf n zs :=
  ⟨hp.imp (fun h e => by omega), fun x hx => sig_I64 n hok x ((hm x).1 hx), fun x _ => hm x, hp.imp (fun h => by omega)⟩
end Go.Proofs.YtaaplalfggofiaaGreatDoor

/-
  Sampling a value at times, in plain Lean.
-/
namespace Go.Proofs.YtaaplalfggofiaaGreatDoor
open Go.RowKit

theorem ins_ex (x : Int) : ∀ zs : List Int, zs.Pairwise (· < ·) → ∃ ys : List Int, ys.Pairwise (· < ·) ∧ ∀ u, u ∈ ys ↔ u = x ∨ u ∈ zs
  | [], _ => ⟨[x], by simp, by simp⟩
  | y :: r, h => by
    obtain ⟨h1, h2⟩ := List.pairwise_cons.1 h
    by_cases a : x < y
    · refine ⟨x :: y :: r, List.pairwise_cons.2 ⟨fun z hz => ?_, h⟩, fun u => by simp⟩
      rcases List.mem_cons.1 hz with rfl | hz
      · exact a
      · have := h1 z hz; omega
    · by_cases b : x = y
      · subst b
        exact ⟨x :: r, h, fun u => by simp⟩
      · obtain ⟨ys, p, m⟩ := ins_ex x r h2
        refine ⟨y :: ys, List.pairwise_cons.2 ⟨fun z hz => ?_, p⟩, fun u => ?_⟩
        · rcases (m z).1 hz with rfl | hz
          · omega
          · exact h1 z hz
        · rw [List.mem_cons, m u, List.mem_cons]
          exact or_left_comm
theorem sorted_ex : ∀ l : List Int, ∃ zs : List Int, zs.Pairwise (· < ·) ∧ ∀ u, u ∈ zs ↔ u ∈ l
  | [] => ⟨[], by simp, by simp⟩
  | x :: r => by
    obtain ⟨zs, p, m⟩ := sorted_ex r
    obtain ⟨ys, q, k⟩ := ins_ex x zs p
    exact ⟨ys, q, fun u => by rw [k u, m u, List.mem_cons]⟩
theorem sigs_ex {n : Nd} (hok : okF n) : ∃ zs, SigsOf n zs := by
  obtain ⟨zs, p, m⟩ := sorted_ex (sigF n)
  exact ⟨zs, sigs_of hok p m⟩
/-- the error of sampling at times -/
def smpE (fin er : Int) : List Int → Int
  | [] => 0
  | t :: ts => if 1 ≤ t ∧ t ≤ fin then (if er = 0 then smpE fin er ts else er) else 2
section
variable {fin er : Int} {ts : List Int} {j : Nat}
theorem smp_end : smpE fin er (ts.drop ts.length) = 0 := by rw [List.drop_length]; rfl
theorem smp_out (h : j < ts.length) (ho : ¬ (1 ≤ ts[j] ∧ ts[j] ≤ fin)) : smpE fin er (ts.drop j) = 2 := by
  rw [List.drop_eq_getElem_cons h]
  unfold smpE
  rw [if_neg ho]
theorem smp_bad (h : j < ts.length) (hi : 1 ≤ ts[j] ∧ ts[j] ≤ fin) (he : er ≠ 0) : smpE fin er (ts.drop j) = er := by
  rw [List.drop_eq_getElem_cons h]
  unfold smpE
  rw [if_pos hi, if_neg he]
theorem smp_step (h : j < ts.length) (hi : 1 ≤ ts[j] ∧ ts[j] ≤ fin) (he : er = 0) : smpE fin er (ts.drop j) = smpE fin er (ts.drop (j + 1)) := by
  rw [List.drop_eq_getElem_cons h]
  conv => lhs; unfold smpE
  rw [if_pos hi, if_pos he]
end
def smpQ (r : Option (Int × Int)) (e : Int) : Int := match r with | none => 7 | some _ => e
def smpT (v : Wv) (n : Nd) (zs ts : List Int) : Int := smpQ (typeF n) (smpE v.fin (fitE v n zs) ts)
def smpG (v : Wv) (n : Nd) (t : Int) : ByteArray := valF (envW v (t - 1)) n
/-- a list of strings and an error: the samples -/
def SmpR (v : Wv) (n : Nd) (zs ts : List Int) (p q : Value) (w : World) : Prop :=
  ∃ (er : Int) (A : Option Addr) (c : Nat) (vs : List ByteArray), er = smpT v n zs ts ∧ q = .int .i64 er ∧ p = .slice A vs.length c ∧ StrsAt w (Lo w.heap.size) A vs ∧ (er ≠ 0 → vs = []) ∧ (er = 0 → vs = ts.map (smpG v n))
theorem SmpR.err {v : Wv} {n : Nd} {zs ts : List Int} {er : Int} {w : World} (h : er = smpT v n zs ts) (he : er ≠ 0) : SmpR v n zs ts (.slice none 0 0) (.int .i64 er) w :=
  ⟨er, none, 0, [], h, rfl, rfl, fun h => absurd rfl h, fun _ => rfl, fun h => absurd h he⟩
theorem SmpR.grow {v : Wv} {n : Nd} {zs ts : List Int} {p q : Value} {w w' : World} (h : SmpR v n zs ts p q w) (hb : Below w.heap.size w w') : SmpR v n zs ts p q w' := by
  obtain ⟨er, A, c, vs, h1, h2, h3, h4, h5, h6⟩ := h
  exact ⟨er, A, c, vs, h1, h2, h3, (h4.stay (stay_below hb fun _ h => h)).more fun _ h => Nat.lt_of_lt_of_le h hb.size, h5, h6⟩

end Go.Proofs.YtaaplalfggofiaaGreatDoor

/-
  event.Sample: the values one tick before some times.
-/
namespace Go.Proofs.YtaaplalfggofiaaGreatDoor
open Go.RowKit

theorem allC_small {v : Wv} (hv : SmallOk v) {n : Nd} {zs : List Int} (hz : SigsOf n zs) (he : fitE v n zs = 0) (f t : Int) : 0 ≤ allC v f t zs ∧ allC v f t zs ≤ 192 := by
  have h0 := fitE_ok.1 he
  have h1 := nodup_few v.sigs.length (zs := zs) hz.1 (fun x hx => ⟨(sigE_zero (h0 x hx)).1, (sigE_zero (h0 x hx)).2.1⟩)
  have h2 := hv.len
  have := allC_le (v := v) (f := f) (t := t) (zs := zs) (fun x hx => oneC_fit hv (h0 x hx))
  have h3 := allC_pos v f t zs
  constructor <;> omega
def SmRel (v : Wv) (n : Nd) (er : Int) (ts : List Int) (M : Nat) (c0 : Int) (w : World) (NB : Obj) (o i : Value) (wr : World) : Prop :=
  ∃ (j : Nat) (A : Option Addr) (c : Nat) (c' : Int), j ≤ ts.length ∧ i = .int .i64 (j : Int) ∧ o = .slice A j c ∧ OwnStr wr (w.heap.size + 1) A c ((ts.take j).map (smpG v n)) ∧ smpE v.fin er ts = smpE v.fin er (ts.drop j) ∧ SrcTo w M v (-1) c' wr ∧ wr.heap[w.heap.size]? = some NB ∧ 0 ≤ c' ∧ c' ≤ c0 + 192 * j
def SmpPost (v : Wv) (n : Nd) (zs ts : List Int) (M : Nat) (w : World) (e : Ending) (w' : World) : Prop :=
  (∃ p q, e = .returned (.tuple #[p, q]) ∧ SmpR v n zs ts p q w') ∧ ∃ c', SrcTo w M v (-1) c' w'

set_option maxRecDepth 100000 in
set_option maxHeartbeats 80000000 in
theorem sample_any (v : Wv) (c : Int) (M : Nat) (n : Nd) (zs : List Int) (TA : Option Addr) (tc : Nat) (ts : List Int) (w : World) (h : SourceAt w M v (-1) c) (hv : SmallOk v) (ht : TreesAt w (Un M w.heap.size) n.KA n.kids) (hok : okF n) (hf60 : FewOk 60 n) (hz : SigsOf n zs)
    (h0 : 0 ≤ c) (h1 : c ≤ 50000) (hI : ∀ W, But w.heap.size (some M) w W → IntsAt W W.heap.size TA ts) (hl : ts.length ≤ 40) :
    Calls Tryz.prog 37 #[srcV M, .agg (cNd n).toArray, .slice TA ts.length tc] w (SmpPost v n zs ts M w) := by
  obtain ⟨i0, hi0, hz0, hz1, hz2⟩ := info_parts infoStr
  have hM := h.lt
  have hfin := hv.fin.2
  have HTYP := hide (fun (W : World) (hs : SrcTo w M v (-1) c W) => typedE_any n 0 W ((tree_src ht hs).more fun _ => un_lo))
  have HVAL := hide (fun (u c' : Int) (W : World) (hs : SrcTo w M v (-1) c' W) (q0 : 0 ≤ c') (q1 : c' ≤ 100000) => value_any2 v (-1) c' M n u u W hs.1 hv (tree_src ht hs) hok hf60 (few_short n hf60) q0 q1 (.inl (by decide)) (fun h => by omega))
  have HEND := hide (fun (W : World) (c' : Int) (hs : SrcTo w M v (-1) c' W) => end_any M v (-1) c' W hs.1)
  have HAC := hide (fun (he : fitE v n zs = 0) (u : Int) => allC_small hv hz he u u)
  obtain ⟨n', hn'⟩ : ∃ n', n' = n := ⟨_, rfl⟩
  have HE := hide (show ∀ e w', SmpPost v n' zs ts M w e w' → SmpPost v n zs ts M w e w' by rw [hn']; exact fun _ _ h => h)
  rw [← hn'] at HTYP HVAL HAC hz
  have hcn : (cNd n').toArray = (cNd n).toArray := by rw [hn']
  rw [hcn] at HTYP HVAL
  clear hf60 hok hcn hn'
  have HZ := hide hz
  refine Calls.mono ?_ (fun e w' hh => HE.out e w' hh)
  clear HE hz
  obtain ⟨nk, at_, name, value, a, b, c0, d, KA, kc, kids⟩ := n
  unfold cNd at HTYP HVAL ⊢
  dsimp only at HTYP HVAL ⊢
  obtain ⟨W0, hW0⟩ : ∃ W0, w.alloc (.cells #[.int .i64 nk, .int .i64 at_, .string name, .string value, .int .i64 a, .int .i64 b, .int .i64 c0, .int .i64 d, .slice KA kids.length kc] 28) = W0 := ⟨_, rfl⟩
  have g0 := new_at hW0
  have hb0 : Below w.heap.size w W0 := by rw [← hW0]; exact (Below.refl _ _).alloc (Nat.le_refl _) _
  have HG0 := hide g0
  have HS0 := hide (SrcTo.start h hb0)
  have HB0 := hide hb0
  have HW0 := hide hW0
  obtain ⟨y0, y1, y2, y3, y4, y5, y6, y7, y8⟩ := box9 g0
  have HTC := hide (HTYP.out W0 HS0.out)
  have HI := hide hI
  clear ht g0 hb0 hW0 h HTYP hI
  unfold srcV at HVAL ⊢
  have hm := meth_end (some ⟨M, 0, none⟩)
  obtain ⟨r, hr⟩ : ∃ r, typeF n' = r := ⟨_, rfl⟩
  rw [hr] at HTC
  go_enter Tryz.func37, Tryz.ntmps37
  go_upto_region 1 with (fail)
  rw [HW0.out]
  cases r with
  | none =>
    have HT0 := hide (show (7 : Int) = smpT v n' zs ts by unfold smpT; rw [hr]; rfl)
    clear hr
    unfold typB at HTC
    dsimp only at HTC
    go_wp2_with (go_at_call 88; refine HTC.out.mono ?_; rintro e w2 ⟨rfl, hb2⟩; have HB2 := hide hb2; clear hb2)
    go_ret2
    exact ⟨⟨_, _, rfl, .err HT0.out (by decide)⟩, _, HS0.out.below HB2.out⟩
  | some p =>
    have HT0 := hide (show smpT v n' zs ts = smpE v.fin (fitE v n' zs) ts by unfold smpT; rw [hr]; rfl)
    have HP := hide (show ∃ p, typeF n' = some p from ⟨p, hr⟩)
    clear hr
    rw [show typB (some p) 0 = true from rfl] at HTC
    go_upto_region 5 with (go_at_call 88; refine HTC.out.mono ?_; rintro e w2 ⟨rfl, hb2⟩; have HB2 := hide hb2; clear hb2)
    clear y0 y1 y2 y3 y4 y5 y6 y7 y8
    have HS2 := hide (HS0.out.below HB2.out)
    have HG2 := hide ((HB2.out.block _ (box_lt HG0.out)).trans HG0.out)
    go_loopw [8, 18] (fun o i wr => SmRel v n' (fitE v n' zs) ts M c w (.cells #[.int .i64 nk, .int .i64 at_, .string name, .string value, .int .i64 a, .int .i64 b, .int .i64 c0, .int .i64 d, .slice KA kids.length kc] 28 (0, 0)) o i wr) (fun _ i _ => ts.length - (intOf i).toNat)
    case atStart => exact ⟨0, none, 0, c, Nat.zero_le _, rfl, rfl, OwnStr.nil _ _, rfl, HS2.out, HG2.out, h0, by omega⟩
    case round =>
      obtain ⟨V, rfl⟩ : ∃ w2 : World, w2 = wr := ⟨_, rfl⟩
      obtain ⟨j, A2, c2, c', hj, rfl, rfl, hown, hsm, hsr, hbx, hc0, hc1⟩ := hrel
      have HOWN := hide hown
      have HSM := hide hsm
      have HSR := hide hsr
      have HBX := hide hbx
      clear hown hsm hsr hbx
      by_cases hlt : j < ts.length
      · obtain ⟨bt, ot, rfl, hbt, hct⟩ := (HI.out V HSR.out.2).at_ hlt
        have HO := hide (fun (er : Int) (h : ¬ (1 ≤ ts[j] ∧ ts[j] ≤ v.fin)) => smp_out (fin := v.fin) (er := er) hlt h)
        have HBD := hide (fun (er : Int) (h : 1 ≤ ts[j] ∧ ts[j] ≤ v.fin) (he : er ≠ 0) => smp_bad (fin := v.fin) (er := er) hlt h he)
        have HST := hide (fun (er : Int) (h : 1 ≤ ts[j] ∧ ts[j] ≤ v.fin) (he : er = 0) => smp_step (fin := v.fin) (er := er) hlt h he)
        have HTK := hide (show (ts.take (j + 1)).map (smpG v n') = (ts.take j).map (smpG v n') ++ [smpG v n' ts[j]] by rw [List.take_succ_eq_append_getElem hlt, List.map_append]; rfl)
        have hlk : ((ts.take j).map (smpG v n')).length = j := by simp; omega
        have j0 : (0 : Int) ≤ (j : Int) := Int.natCast_nonneg _
        have j1 : (j : Int) < (ts.length : Int) := by omega
        generalize ts[j] = u at *
        by_cases hin : 1 ≤ u ∧ u ≤ v.fin
        case neg =>
          have HF := hide (show (2 : Int) = smpT v n' zs ts by rw [HT0.out, HSM.out, HO.out _ hin])
          by_cases h1 : u < 1
          case pos =>
            have T1 : decide (u < 1) = true := decide_eq_true h1
            clear h1 hin
            go_wp2_with fail
            go_ret2
            exact ⟨⟨_, _, rfl, .err HF.out (by decide)⟩, _, HSR.out⟩
          case neg =>
            have T1 : decide (u < 1) = false := decide_eq_false h1
            have T2 : decide (v.fin < u) = true := decide_eq_true (by omega)
            clear h1 hin
            go_wp2_with (go_at_call 405; refine (HEND.out V _ HSR.out).mono ?_; rintro e w3 ⟨rfl, rfl⟩)
            go_ret2
            exact ⟨⟨_, _, rfl, .err HF.out (by decide)⟩, _, HSR.out⟩
        have T1 : decide (u < 1) = false := decide_eq_false (by omega)
        have T2 : decide (v.fin < u) = false := decide_eq_false (by omega)
        have hw : IntKind.i64.wrap (u - 1) = u - 1 := by rw [IntWalk.i64_in _ (by omega)]
        have HIN := hide hin
        have HV := hide (HVAL.out (u - 1) c' V HSR.out hc0 (by omega))
        have HIR := hide (show inR v (u - 1) (u - 1) from ⟨by omega, Int.le_refl _, by omega⟩)
        obtain ⟨y0, y1, y2, y3, y4, y5, y6, y7, y8⟩ := box9 HBX.out
        clear hin
        go_upto_region 9 with (go_at_call 405; refine (HEND.out V _ HSR.out).mono ?_; rintro e w3 ⟨rfl, rfl⟩)
        go_wp2_with fail
        refine HV.out.mono ?_
        rintro e w3 (⟨g1, rfl, g2⟩ | ⟨g0, g1, rfl, g2⟩ | ⟨gin, gp, ys, gz, ⟨gfe, _, rfl, c3, g3⟩ | ⟨gfe, grm, g3, A3, ca, l, rfl, go, gs, gl⟩ | ⟨_, g2, _⟩⟩)
        · exact absurd HIR.out g1
        · obtain ⟨p, hp⟩ := HP.out; rw [hp] at g1; cases g1
        · obtain rfl := sigs_same HZ.out gz
          unfold VRes
          have TF : (fitE v n' zs != 0) = true := bne_iff_ne.2 gfe
          have HF := hide (show fitE v n' zs = smpT v n' zs ts by rw [HT0.out, HSM.out, HBD.out _ HIN.out gfe])
          have HFE := hide gfe
          have HS3 := hide (HSR.out.trans g3)
          clear gfe g3 gz gp gin y0 y1 y2 y3 y4 y5 y6 y7 y8
          go_wp2_with fail
          go_ret2
          exact ⟨⟨_, _, rfl, .err HF.out HFE.out⟩, _, HS3.out⟩
        · obtain rfl := sigs_same HZ.out gz
          unfold VRes
          have hac := HAC.out gfe (u - 1)
          have HSN := hide (HSM.out.trans (HST.out _ HIN.out gfe))
          have HS3 := hide (HSR.out.trans g3)
          have hMV : M < V.heap.size := Nat.lt_of_lt_of_le hM HSR.out.2.size
          have HBX3 := hide ((g3.2.block _ (box_lt HBX.out) (fun e => by injection e with e; omega)).trans HBX.out)
          have HO4 := hide (show OwnStr w3 (w.heap.size + 1) A2 c2 ((ts.take j).map (smpG v n')) from own_block HOWN.out fun g hg => g3.2.block g (own_ob HOWN.out g hg).2 (fun e => by injection e with e; have := (own_ob HOWN.out g hg).1; omega))
          have hz3 := g3.2.size
          have hbz := HSR.out.2.size
          have hbl := box_lt HBX.out
          cases l with
          | nil => exact gs.elim
          | cons x r =>
            obtain ⟨b0, o0, rfl, hb0, hc0'⟩ := go.row.at_ (show 0 < (x :: r).length by simp)
            have hxv : x.v = smpG v n' u := (gs.first rfl).2.symm
            simp only [List.getElem_cons_zero] at hc0'
            obtain ⟨xf, xt, xv⟩ := x
            unfold encSp at hc0'
            have a2 := hc0' 2 (by omega)
            simp only [List.getElem?_cons_zero, List.getElem?_cons_succ, Nat.add_zero, Nat.zero_mul] at a2
            dsimp only at hxv
            subst hxv
            generalize smpG v n' u = vq at *
            have HO3 := hide (World.ownsRow.alloc HO4.out (.cells #[.string vq] 9))
            have HN := hide (heap_alloc_new w3 (.cells #[.string vq] 9))
            rw [hlk] at HO3
            have hpos : (0 : Int) < ((⟨xf, xt, vq⟩ :: r : List Spn).length : Int) := by simp only [List.length_cons]; omega
            clear hc0' gs go g3 gz gfe gp gin y0 y1 y2 y3 y4 y5 y6 y7 y8
            go_wp2_with (at_builtin; (refine append_src rfl _ _ 71 rfl (w.heap.size + 1) 9 i0 _ 1 16 Tryz.underlying71 hi0 hz0 hz1 hz2 rfl (by decide) (.slice A2 j c2) j (((ts.take j).map (smpG v n')).map Value.string) rfl HO3.out (some ⟨w3.heap.size, 0, none⟩) 1 1 [.string vq] rfl rfl (src_block (t := 9) (fr := (0, 0)) HN.out) (str_one vq) (by simp only [maxLen]; omega) (by omega) (by simp; omega) ?_); intro v' w4 hown4 hg4)
            obtain ⟨A5, c5, rfl, ho5⟩ := OwnStr.of_row (l := (ts.take (j + 1)).map (smpG v n')) hown4 (by rw [HTK.out]; simp; omega) (by rw [HTK.out]; simp)
            have hlk5 : ((ts.take (j + 1)).map (smpG v n')).length = j + 1 := by simp; omega
            rw [hlk5]
            rw [ob_eq] at hg4
            have hb4 : Below (w.heap.size + 1) w3 w4 := ((Below.refl _ _).alloc (by omega) _).grown hg4 (by simp; omega) (fun g hg => (own_ob HO4.out g hg).1)
            refine ⟨⟨j + 1, A5, c5, c' + allC v (u - 1) (u - 1) zs, hlt, by go_num, rfl, ho5, HSN.out, ⟨HS3.out.1.keep fun b hb => hb4.block b (by omega), HS3.out.2.trans ((But.of hb4).mono (by omega))⟩, (hb4.block _ (by omega)).trans HBX3.out, by omega, by omega⟩, by simp [intOf]; omega⟩
        · omega
      · have hje : j = ts.length := by omega
        subst hje
        rw [List.take_length] at HOWN
        rw [smp_end] at HSM
        have HF := hide (show SmpPost v n' zs ts M w (.returned (.tuple #[.slice A2 ts.length c2, .int .i64 0])) V from ⟨⟨_, _, rfl, 0, A2, c2, ts.map (smpG v n'), by rw [HT0.out, HSM.out], rfl, by rw [List.length_map], HOWN.out.strs.more fun b h => h.2.1, fun h => absurd rfl h, fun _ => rfl⟩, _, HSR.out⟩)
        clear hlt
        go_wp2_with fail
        go_ret2
        exact HF.out

end Go.Proofs.YtaaplalfggofiaaGreatDoor

/-
  What the example of chapter 53 must say.
-/
namespace Go.Proofs.YtaaplalfggofiaaGreatDoor
open Go.RowKit

def Awake53 : Prop := ∀ w : World, Calls Tryz.prog 31 #[] w fun e w' => e = .returned (.bool true) ∧ Below w.heap.size w w'

end Go.Proofs.YtaaplalfggofiaaGreatDoor

/-
  slices.Contains of integers.
-/
namespace Go.Proofs.YtaaplalfggofiaaGreatDoor
open Go.RowKit

theorem has_int (A : Option Addr) (c : Nat) (xs : List Int) (x : Int) (w : World) (h : IntsAt w w.heap.size A xs) (hl : xs.length ≤ 9223372036854775807) :
    Calls Tryz.prog 38 #[.slice A xs.length c, .int .i64 x] w fun e w' => e = .returned (.bool (xs.contains x)) ∧ w' = w := by
  cases xs with
  | nil => exact Tryz.slices_Contains_int_empty A c x w
  | cons y r =>
    obtain ⟨b, off, rfl, hb, hc⟩ := h (by simp)
    refine (Tryz.slices_Contains_int b off (y :: r).length c (y :: r) x w (Nat.le_refl _) hl (fun j hj => ?_)).mono fun e w' hh => ?_
    · exact hc j _ (by rw [List.getElem?_eq_getElem hj, List.getD_eq_getElem?_getD, List.getElem?_eq_getElem hj]; rfl)
    · rw [List.take_length] at hh
      exact hh

end Go.Proofs.YtaaplalfggofiaaGreatDoor
