/-
  Several texts in one: RunsP, RowsP, SmallP, Value47, QuietB, Nd. Each says at its head what it holds.
-/
import Derived.Test.YtaaplalfggofiaaGreatDoorEC13
import Derived.Test.YtaaplalfggofiaaGreatDoorEC10
import Derived.Test.YtaaplalfggofiaaGreatDoorEC11
import Derived.Test.YtaaplalfggofiaaGreatDoorEC6
import Derived.Test.YtaaplalfggofiaaGreatDoorEC3
import Derived.Deep.DeepCutAuto
import Derived.Deep.QuietTactic
import Derived.BigQuiet
import Derived.IntWalk
import Derived.Test.YtaaplalfggofiaaGreatDoorEC2

/-
  What runs.Of builds: the spans of a signal, plain.
-/
namespace Go.Proofs.YtaaplalfggofiaaGreatDoor

theorem foldV_cons (t : Int) (a : Chg) (r : List Chg) (v : ByteArray) : foldV t (a :: r) v = foldV t r (if a.time ≤ t then a.val else v) := rfl
theorem foldV_same {t t' : Int} (ht : t ≤ t') : ∀ (cs : List Chg) (v : ByteArray), (∀ c ∈ cs, ¬ (t < c.time ∧ c.time ≤ t')) → foldV t' cs v = foldV t cs v
  | [], _, _ => rfl
  | a :: r, v, h => by
    have ha := h a (by simp)
    rw [foldV_cons, foldV_cons, foldV_same ht r _ fun c hc => h c (by simp [hc])]
    congr 1
    by_cases h1 : a.time ≤ t
    · rw [if_pos h1, if_pos (by omega)]
    · rw [if_neg h1, if_neg (by omega)]
theorem foldV_none {t : Int} : ∀ (cs : List Chg) (v : ByteArray), (∀ c ∈ cs, t < c.time) → foldV t cs v = v
  | [], _, _ => rfl
  | a :: r, v, h => by
    have ha := h a (by simp)
    rw [foldV_cons, if_neg (by omega), foldV_none r v fun c hc => h c (by simp [hc])]
theorem foldV_at : ∀ {cs : List Chg} {c : Chg} (v : ByteArray), Sorted47 cs → c ∈ cs → foldV c.time cs v = c.val
  | a :: r, c, v, hs, hc => by
    unfold Sorted47 at hs
    rw [List.pairwise_cons] at hs
    rcases List.mem_cons.1 hc with rfl | hc
    · rw [foldV_cons, if_pos (Int.le_refl _)]
      exact foldV_none r _ hs.1
    · rw [foldV_cons]
      exact foldV_at _ hs.2 hc

/-- the list so far, and what may stand behind it -/
def OutOk (g : Int → ByteArray) (cs : List Chg) (a t : Int) (out : List Spn) : Prop :=
  ∃ l x, out = l ++ [x] ∧ ∀ e, t ≤ e → (∀ c ∈ cs, ¬ (t < c.time ∧ c.time ≤ e)) → Spans g a e (l ++ [⟨x.f, e, x.v⟩])
def outL (a : Int) (v : ByteArray) (pre : List Chg) : List Spn := pre.foldl (fun l c => addL l c.time c.val) (addL [] a v)
theorem outL_snoc (a : Int) (v : ByteArray) (pre : List Chg) (c : Chg) : outL a v (pre ++ [c]) = addL (outL a v pre) c.time c.val := by unfold outL; rw [List.foldl_append]; rfl
theorem out_first {s : Sgn} {a : Int} (hk : s.kind ≠ 3) : OutOk (valS s) s.chs a a (outL a (valS s a) []) := by
  refine ⟨[], ⟨a, 0, valS s a⟩, rfl, fun e he hno => Spans.one he (fun t h1 h2 => ?_) rfl rfl⟩
  unfold valS
  rw [if_neg hk]
  dsimp only
  rw [if_neg hk]
  exact foldV_same h1 _ _ fun c hc h => hno c hc ⟨h.1, by omega⟩
theorem out_next {s : Sgn} {a t : Int} {out : List Spn} {c : Chg} (hk : s.kind ≠ 3) (hs : Sorted47 s.chs) (ho : OutOk (valS s) s.chs a t out) (hc : c ∈ s.chs) (htc : t < c.time) (h0t : 0 ≤ t) (hct : c.time ≤ 4398046511104) (hno : ∀ d ∈ s.chs, ¬ (t < d.time ∧ d.time < c.time)) :
    OutOk (valS s) s.chs a c.time (addL out c.time c.val) := by
  obtain ⟨l, x, rfl, h⟩ := ho
  have h1 := h (c.time - 1) (by omega) (fun d hd hh => hno d hd ⟨hh.1, by omega⟩)
  have hg : ∀ e, c.time ≤ e → (∀ d ∈ s.chs, ¬ (c.time < d.time ∧ d.time ≤ e)) → ∀ u, c.time ≤ u → u ≤ e → valS s u = c.val := fun e he hne u h2 h3 => by
    unfold valS
    rw [if_neg hk, foldV_same h2 _ _ (fun d hd hh => hne d hd ⟨hh.1, by omega⟩)]
    exact foldV_at _ hs hc
  rw [addL_snoc _ _ _ _ (by omega) hct]
  by_cases hv : x.v = c.val
  · rw [if_pos hv]
    refine ⟨l, x, rfl, fun e he hne => ?_⟩
    have h2 := Spans.same (e' := e) h1 (by omega) (fun u hu1 hu2 => by rw [hg e he hne u (by omega) hu2]; exact hv.symm)
    exact h2
  · rw [if_neg hv]
    refine ⟨l ++ [⟨x.f, c.time - 1, x.v⟩], ⟨c.time, 0, c.val⟩, by simp, fun e he hne => ?_⟩
    exact Spans.more (y := ⟨c.time, e, c.val⟩) h1 (by omega) (fun u hu1 hu2 => hg e he hne u (by omega) hu2) (by show c.time = _; omega) rfl hv

/-- behind all changes up to a time -/
theorem out_all {s : Sgn} {a b : Int} (hk : s.kind ≠ 3) (hs : Sorted47 s.chs) (hab : a ≤ b) (h0a : 0 ≤ a) (hb4 : b ≤ 4398046511104) : ∃ l x, outL a (valS s a) (beh s.chs a b) = l ++ [x] ∧ Spans (valS s) a b (l ++ [⟨x.f, b, x.v⟩]) := by
  suffices h : ∀ (n : Nat) (pre : List Chg) (t : Int), (beh s.chs t b).length = n → pre ++ beh s.chs t b = beh s.chs a b → a ≤ t → t ≤ b → OutOk (valS s) s.chs a t (outL a (valS s a) pre) →
      ∃ l x, outL a (valS s a) (beh s.chs a b) = l ++ [x] ∧ Spans (valS s) a b (l ++ [⟨x.f, b, x.v⟩]) from
    h _ [] a rfl rfl (Int.le_refl _) hab (out_first hk)
  intro n
  induction n with
  | zero =>
    intro pre t hn hp hat htb ho
    have he : beh s.chs t b = [] := List.eq_nil_of_length_eq_zero hn
    rw [he, List.append_nil] at hp
    obtain ⟨l, x, h1, h2⟩ := ho
    rw [← hp]
    refine ⟨l, x, h1, h2 b htb fun c hc hh => ?_⟩
    have : c ∈ beh s.chs t b := by unfold beh; rw [List.mem_filter]; exact ⟨hc, by simp; omega⟩
    rw [he] at this
    cases this
  | succ n ih =>
    intro pre t hn hp hat htb ho
    cases hnc : nextC t s.chs with
    | none => rw [beh_none hnc] at hn; cases hn
    | some c =>
      obtain ⟨h1, h2, h3⟩ := beh_step (to_ := b) hs hnc
      by_cases hcb : c.time ≤ b
      · have h4 := h2 hcb
        rw [h4] at hn hp
        have hmem : c ∈ s.chs := List.mem_of_find?_eq_some hnc
        refine ih (pre ++ [c]) c.time (by simpa using hn) (by simpa using hp) (by omega) hcb ?_
        rw [outL_snoc]
        refine out_next hk hs ho hmem h1 (by omega) (by omega) fun d hd hh => ?_
        have : d ∈ beh s.chs t b := by unfold beh; rw [List.mem_filter]; exact ⟨hd, by simp; omega⟩
        rw [h4] at this
        rcases List.mem_cons.1 this with rfl | h5
        · omega
        · have := (beh_mem h5).2.1; omega
      · rw [h3 (by omega)] at hn; cases hn
theorem addL_len (l : List Spn) (f : Int) (v : ByteArray) : (addL l f v).length ≤ l.length + 1 := by
  rcases List.eq_nil_or_concat l with rfl | ⟨l, x, rfl⟩
  · exact Nat.le_refl _
  · rw [List.concat_eq_append, addL_wrap]
    split <;> simp
theorem outL_len (a : Int) (v : ByteArray) (pre : List Chg) : (outL a v pre).length ≤ pre.length + 1 := by
  suffices h : ∀ (pre : List Chg) (l : List Spn), (pre.foldl (fun l c => addL l c.time c.val) l).length ≤ l.length + pre.length by
    have h1 := h pre (addL [] a v)
    have h2 : (addL [] a v).length = 1 := rfl
    unfold outL
    omega
  intro pre
  induction pre with
  | nil => intro l; exact Nat.le_refl _
  | cons c pre ih =>
    intro l
    have h1 := ih (addL l c.time c.val)
    have h2 := addL_len l c.time c.val
    simp only [List.foldl_cons, List.length_cons]
    omega

end Go.Proofs.YtaaplalfggofiaaGreatDoor

/-
  The signals of a tree and a wave: whether they fit, how often the source is called, what the tree says at a time. Plain.
-/
namespace Go.Proofs.YtaaplalfggofiaaGreatDoor
open Go.RowKit

/-- all nodes of a signal have a kind and a width -/
def agrB (x k w : Int) (n : Nd) (l : List Bool) : Bool := !(decide (n.kind = 1) && decide (n.a = x) && (decide (n.c ≠ k) || decide (n.b ≠ w))) && l.all (fun b => b)
def agrF (x k w : Int) (n : Nd) : Bool := n.fold (agrB x k w)
theorem agrF_eq (x k w : Int) (n : Nd) : agrF x k w n = (!(decide (n.kind = 1) && decide (n.a = x) && (decide (n.c ≠ k) || decide (n.b ≠ w))) && n.kids.all (agrF x k w)) := by
  unfold agrF
  rw [Nd.fold_eq]
  unfold agrB
  rw [List.all_map]
  rfl
def noSgn : Sgn := ⟨0, 0, none, 0, []⟩
def sgnAt (v : Wv) (x : Int) : Sgn := v.sigs[x.toNat]?.getD noSgn
def sigE (v : Wv) (n : Nd) (x : Int) : Int := if x < 0 ∨ (v.sigs.length : Int) ≤ x then 2 else if agrF x (sgnAt v x).kind (sgnAt v x).width n then 0 else 7
/-- the first error of signals -/
def fitE (v : Wv) (n : Nd) : List Int → Int
  | [] => 0
  | x :: r => if sigE v n x = 0 then fitE v n r else sigE v n x
theorem fitE_ok {v : Wv} {n : Nd} : ∀ {zs : List Int}, fitE v n zs = 0 ↔ ∀ x ∈ zs, sigE v n x = 0
  | [] => by simp [fitE]
  | x :: r => by
    unfold fitE
    by_cases h : sigE v n x = 0
    · rw [if_pos h, fitE_ok]; simp [h]
    · rw [if_neg h]; simp [h]
theorem fitE_bad {v : Wv} {n : Nd} {x : Int} (hx : sigE v n x ≠ 0) : ∀ {pre post : List Int}, (∀ y ∈ pre, sigE v n y = 0) → fitE v n (pre ++ x :: post) = sigE v n x
  | [], _, _ => by rw [List.nil_append, fitE, if_neg hx]
  | y :: pre, post, h => by rw [List.cons_append, fitE, if_pos (h y (by simp))]; exact fitE_bad hx fun z hz => h z (by simp [hz])
/-- the calls of the source for one signal, for all -/
def oneC (v : Wv) (f t x : Int) : Int := 4 + ((beh (sgnAt v x).chs f t).length : Int)
def allC (v : Wv) (f t : Int) (zs : List Int) : Int := (zs.map (oneC v f t)).foldl (· + ·) 0
theorem allC_snoc (v : Wv) (f t : Int) (zs : List Int) (x : Int) : allC v f t (zs ++ [x]) = allC v f t zs + oneC v f t x := by unfold allC; rw [List.map_append, List.foldl_append]; rfl
def envW (v : Wv) (t : Int) (x : Int) : ByteArray := valS (sgnAt v x) t
def gOf (v : Wv) (x : Int) : Int → ByteArray := valS (sgnAt v x)
/-- the environment that a row of values makes -/
def envL : List Int → List ByteArray → Int → ByteArray
  | z :: zs, b :: bs, x => if x = z then b else envL zs bs x
  | _, _, _ => ⟨#[]⟩
theorem envL_at (v : Wv) (t : Int) : ∀ {zs : List Int} {x : Int}, x ∈ zs → envL zs ((zs.map (gOf v)).map (· t)) x = envW v t x
  | z :: zs, x, h => by
    rw [List.map_cons, List.map_cons, envL]
    by_cases e : x = z
    · rw [if_pos e, e]; rfl
    · rw [if_neg e]
      exact envL_at v t ((List.mem_cons.1 h).resolve_left e)
/-- a tree says the same where its signals are the same -/
theorem val_congr {env env' : Int → ByteArray} (n : Nd) : (∀ x ∈ sigF n, env x = env' x) → valF env n = valF env' n := by
  induction n using Nd.ind with
  | h n ih =>
  intro h
  rw [sigF_eq] at h
  unfold sigB at h
  rw [valF_eq, valF_eq]
  unfold vaB
  by_cases k1 : n.kind = 1
  · rw [if_pos k1, if_pos k1]
    exact h _ (by simp [k1])
  rw [if_neg k1, if_neg k1]
  congr 1
  have : n.kids.map (valF env) = n.kids.map (valF env') := List.map_congr_left fun k hk => ih k hk fun x hx => h x (List.mem_append_right _ (List.mem_flatten.2 ⟨_, List.mem_map.2 ⟨k, hk, rfl⟩, hx⟩))
  rw [this]
theorem sig_kid {n k : Nd} (hk : k ∈ n.kids) {x : Int} (hx : x ∈ sigF k) : x ∈ sigF n := by
  rw [sigF_eq]
  unfold sigB
  exact List.mem_append_right _ (List.mem_flatten.2 ⟨_, List.mem_map.2 ⟨k, hk, rfl⟩, hx⟩)
theorem tru_congr {env env' : Int → ByteArray} (n : Nd) : (∀ x ∈ sigF n, env x = env' x) → truF env n = truF env' n := by
  induction n using Nd.ind with
  | h n ih =>
  intro h
  have hv := val_congr n h
  have hkv : ∀ k ∈ n.kids, valF env k = valF env' k := fun k hk => val_congr k fun x hx => h x (sig_kid hk hx)
  have hkt : n.kids.map (truF env) = n.kids.map (truF env') := List.map_congr_left fun k hk => ih k hk fun x hx => h x (sig_kid hk hx)
  rw [truF_eq, truF_eq, hkt]
  unfold truB
  rw [hv]
  split
  · rfl
  split
  · rfl
  split
  · match h : n.kids, hkv with
    | x :: y :: r, hkv =>
      dsimp only
      rw [hkv x (by simp), hkv y (by simp)]
    | [], _ => rfl
    | [_], _ => rfl
  split
  · match h : n.kids, hkv with
    | x :: r, hkv =>
      dsimp only
      rw [hkv x (by simp)]
    | [], _ => rfl
  rfl

end Go.Proofs.YtaaplalfggofiaaGreatDoor

/-
  What wavestoreref47.Small says of a wave; the values of its signals. Plain.
-/
namespace Go.Proofs.YtaaplalfggofiaaGreatDoor
open Go.RowKit

def vOk (s : Sgn) (v : ByteArray) : Prop := (s.kind = 0 → (v.size : Int) = s.width ∧ v.data.toList.all bitC = true) ∧ v.size ≤ 64
structure SgOk (fin : Int) (s : Sgn) : Prop where
  kind : 0 ≤ s.kind ∧ s.kind ≤ 3
  width : (s.kind = 0 → 1 ≤ s.width ∧ s.width ≤ 64) ∧ (s.kind ≠ 0 → s.width = 0)
  len : s.chs.length ≤ 20
  sorted : Sorted47 s.chs
  each : ∀ c ∈ s.chs, 0 ≤ c.time ∧ c.time ≤ fin ∧ vOk s c.val
structure SmallOk (v : Wv) : Prop where
  len : v.sigs.length ≤ 8
  fin : 0 ≤ v.fin ∧ v.fin ≤ 1099511627776
  each : ∀ s ∈ v.sigs, SgOk v.fin s
theorem foldV_ok {p : ByteArray → Prop} (t : Int) : ∀ (cs : List Chg) (v : ByteArray), p v → (∀ c ∈ cs, p c.val) → p (foldV t cs v)
  | [], _, h, _ => h
  | a :: r, v, h, hc => by
    rw [foldV_cons]
    refine foldV_ok t r _ ?_ fun c h2 => hc c (by simp [h2])
    split
    · exact hc a (by simp)
    · exact h
theorem init_ok {fin : Int} {s : Sgn} (h : SgOk fin s) : vOk s (bs (initB s)) := by
  obtain ⟨h1, h2⟩ := h.width
  unfold vOk initB initL
  by_cases k1 : s.kind = 1
  · rw [if_pos k1]
    exact ⟨fun k => by omega, by decide⟩
  · rw [if_neg k1]
    by_cases k0 : s.kind = 0
    · rw [if_pos k0]
      obtain ⟨h3, h4⟩ := h1 k0
      have hs : (bs (List.replicate s.width.toNat 120)).size = s.width.toNat := by simp [bs, ByteArray.size]
      refine ⟨fun _ => ⟨by omega, ?_⟩, by omega⟩
      simp [bs, bitC]
    · rw [if_neg k0]
      exact ⟨fun k => absurd k k0, by decide⟩
theorem valS_ok {fin : Int} {s : Sgn} (h : SgOk fin s) (t : Int) : vOk s (valS s t) := by
  unfold valS
  split
  · exact init_ok h
  · exact foldV_ok t _ _ (init_ok h) fun c hc => (h.each c hc).2.2
theorem sgn_mem {v : Wv} {x : Int} (h0 : 0 ≤ x) (h1 : x < v.sigs.length) : v.sigs[x.toNat]? = some (sgnAt v x) ∧ sgnAt v x ∈ v.sigs := by
  have h2 : x.toNat < v.sigs.length := by omega
  have h3 : v.sigs[x.toNat]? = some v.sigs[x.toNat] := List.getElem?_eq_getElem h2
  have h4 : sgnAt v x = v.sigs[x.toNat] := by unfold sgnAt; rw [h3]; rfl
  rw [h4]
  exact ⟨h3, List.getElem_mem h2⟩
theorem sigE_zero {v : Wv} {n : Nd} {x : Int} (h : sigE v n x = 0) : 0 ≤ x ∧ x < v.sigs.length ∧ agrF x (sgnAt v x).kind (sgnAt v x).width n = true := by
  unfold sigE at h
  split at h
  · cases h
  · split at h
    · exact ⟨by omega, by omega, by assumption⟩
    · cases h
theorem agr_kid {x k w : Int} {n m : Nd} (h : agrF x k w n = true) (hm : m ∈ n.kids) : agrF x k w m = true := by
  rw [agrF_eq, Bool.and_eq_true, List.all_eq_true] at h
  exact h.2 m hm
theorem agr_here {k w : Int} {n : Nd} (h : agrF n.a k w n = true) (h1 : n.kind = 1) : n.c = k ∧ n.b = w := by
  rw [agrF_eq, Bool.and_eq_true] at h
  have := h.1
  rw [decide_eq_true h1, decide_eq_true (rfl : n.a = n.a)] at this
  simp at this
  exact this
theorem env_ok_of {v : Wv} (hv : SmallOk v) (t : Int) (n : Nd) : (∀ x ∈ sigF n, 0 ≤ x ∧ x < v.sigs.length ∧ agrF x (sgnAt v x).kind (sgnAt v x).width n = true) → n.fold (fun m l => m.value.size ≤ 130 ∧ ∀ p ∈ l, p) → EnvOk (envW v t) n := by
  induction n using Nd.ind with
  | h n ih =>
  intro hs hsz
  rw [Nd.fold_eq] at hsz
  refine (EnvOk_eq _ n).2 ⟨fun k1 => ?_, hsz.1, fun k hk => ih k hk (fun x hx => ?_) (hsz.2 _ (List.mem_map.2 ⟨k, hk, rfl⟩))⟩
  · have hin : n.a ∈ sigF n := by rw [sigF_eq]; unfold sigB; simp [k1]
    obtain ⟨h0, h1, h2⟩ := hs _ hin
    obtain ⟨_, hm⟩ := sgn_mem h0 h1
    obtain ⟨h3, h4⟩ := agr_here h2 k1
    have hok := valS_ok (hv.each _ hm) t
    refine ⟨fun hc => ?_, ?_⟩
    · have := (hok.1 (by omega)).1
      unfold envW
      omega
    · have := hok.2
      unfold envW
      omega
  · obtain ⟨h0, h1, h2⟩ := hs x (sig_kid hk hx)
    exact ⟨h0, h1, agr_kid h2 hk⟩

end Go.Proofs.YtaaplalfggofiaaGreatDoor

/-
  wavestoreref47.value: what it says of a string.
-/
namespace Go.Proofs.YtaaplalfggofiaaGreatDoor
open Go.RowKit

/-- whether a string is a value of a signal -/
def val47B (kind width : Int) (s : ByteArray) : Bool := if kind = 3 then s.toList.isEmpty else if kind = 0 then s.data.toList.all bitC && ((s.size : Int) == width) else decide ((s.size : Int) ≤ 64)
def ValueSays (kind width : Int) (s : ByteArray) : Prop := (kind = 0 → (s.size : Int) = width ∧ s.data.toList.all bitC = true) ∧ (kind ≠ 0 → s.size ≤ 64)
theorem empty_size {s : ByteArray} (h : s.toList.isEmpty = true) : s.size = 0 := by
  rw [ByteArray.toList_eq, List.isEmpty_iff] at h
  show s.data.size = 0
  rw [← Array.length_toList, h]
  rfl
theorem val47_says {kind width : Int} {s : ByteArray} (h : val47B kind width s = true) : ValueSays kind width s := by
  unfold val47B at h
  by_cases k3 : kind = 3
  · rw [if_pos k3] at h
    exact ⟨fun e => by omega, fun _ => by rw [empty_size h]; decide⟩
  · rw [if_neg k3] at h
    by_cases k0 : kind = 0
    · rw [if_pos k0, Bool.and_eq_true] at h
      exact ⟨fun _ => ⟨eq_of_beq h.2, h.1⟩, fun e => absurd k0 e⟩
    · rw [if_neg k0] at h
      exact ⟨fun e => absurd e k0, fun _ => by have := of_decide_eq_true h; omega⟩
theorem all_false {s : ByteArray} {k : Nat} (hk : k < s.size) (h0 : s[k] ≠ 48) (h1 : s[k] ≠ 49) (h2 : s[k] ≠ 120) (h3 : s[k] ≠ 122) : s.data.toList.all bitC = false := by
  rw [← Bool.not_eq_true, List.all_eq_true]
  intro ha
  have := ha s[k] (by show s.data[k] ∈ _; simp)
  unfold bitC at this
  simp [h0, h1, h2, h3] at this
set_option maxRecDepth 100000 in
set_option maxHeartbeats 2000000 in
theorem value47_any (kind width : Int) (CA : Option Addr) (n cc : Nat) (s : ByteArray) (w : World) (hs : s.size ≤ 9223372036854775807) :
    Calls Tryz.prog 108 #[.agg #[.int .i64 kind, .int .i64 width, .slice CA n cc], .string s] w fun e w' => e = .returned (.bool (val47B kind width s)) ∧ Below w.heap.size w w' := by
  have hx := heap_alloc_new w (.cells #[.int .i64 kind, .int .i64 width, .slice CA n cc] 49)
  have HB := hide (show Below w.heap.size w (w.alloc (.cells #[.int .i64 kind, .int .i64 width, .slice CA n cc] 49)) from (Below.refl _ _).alloc (Nat.le_refl _) _)
  by_cases k3 : kind = 3
  · subst k3
    have HE := hide (show s.toList.isEmpty = val47B 3 width s from rfl)
    go_enter Tryz.func108, Tryz.ntmps108
    go_wp2_with fail
    go_ret
    exact ⟨by rw [← HE.out]; rfl, HB.out⟩
  · have t3 : (kind == 3) = false := beq_eq_false_iff_ne.2 k3
    by_cases k0 : kind = 0
    · subst k0
      have HY := hide (show val47B 0 width s = (s.data.toList.all bitC && ((s.size : Int) == width)) from rfl)
      clear k3 t3
      go_enter Tryz.func108, Tryz.ntmps108
      go_wp2_with fail
      go_loop [5] (fun i => KnRel allBits s i) (fun i => s.size - (intOf i).toNat)
      case atStart => exact ⟨0, Nat.zero_le _, rfl, rfl⟩
      case round =>
        obtain ⟨k, hk, rfl, hp⟩ := hrel
        have HP := hide hp
        clear hp
        by_cases hlt : k < s.size
        · have HT := hide (bit_take hlt)
          by_cases h0 : s[k] = 48
          · have HK := hide (show bitC s[k] = true by rw [h0]; rfl)
            have t0 : ((s[k].toNat : Int) != 48) = false := by rw [h0]; rfl
            clear h0
            go_wp2_with fail
            go_round
            case rel => exact ⟨k + 1, by omega, by go_num, by rw [HT.out, HP.out, HK.out]; rfl⟩
            case measure => simp [intOf]; omega
          · have t0 : ((s[k].toNat : Int) != 48) = true := u8_ne h0
            have H0 := hide h0
            clear h0
            by_cases h1 : s[k] = 49
            · have HK := hide (show bitC s[k] = true by rw [h1]; rfl)
              have t1 : ((s[k].toNat : Int) != 49) = false := by rw [h1]; rfl
              clear h1
              go_wp2_with fail
              go_round
              case rel => exact ⟨k + 1, by omega, by go_num, by rw [HT.out, HP.out, HK.out]; rfl⟩
              case measure => simp [intOf]; omega
            · have t1 : ((s[k].toNat : Int) != 49) = true := u8_ne h1
              have H1 := hide h1
              clear h1
              by_cases h2 : s[k] = 120
              · have HK := hide (show bitC s[k] = true by rw [h2]; rfl)
                have t2 : ((s[k].toNat : Int) != 120) = false := by rw [h2]; rfl
                clear h2
                go_wp2_with fail
                go_round
                case rel => exact ⟨k + 1, by omega, by go_num, by rw [HT.out, HP.out, HK.out]; rfl⟩
                case measure => simp [intOf]; omega
              · have t2 : ((s[k].toNat : Int) != 120) = true := u8_ne h2
                have H2 := hide h2
                clear h2
                by_cases h3 : s[k] = 122
                · have HK := hide (show bitC s[k] = true by rw [h3]; rfl)
                  have t3 : ((s[k].toNat : Int) != 122) = false := by rw [h3]; rfl
                  clear h3
                  go_wp2_with fail
                  go_round
                  case rel => exact ⟨k + 1, by omega, by go_num, by rw [HT.out, HP.out, HK.out]; rfl⟩
                  case measure => simp [intOf]; omega
                · have t3 : ((s[k].toNat : Int) != 122) = true := u8_ne h3
                  have HF := hide (all_false hlt H0.out H1.out H2.out h3)
                  clear h3
                  go_wp2_with fail
                  go_ret
                  exact ⟨by rw [HY.out, HF.out]; rfl, HB.out⟩
        · have hke : k = s.size := by omega
          subst hke
          have hp := HP.out
          rw [List.take_of_length_le (by simp)] at hp
          have HP2 := hide hp
          clear hp
          go_wp2_with fail
          go_ret
          exact ⟨by rw [HY.out, show s.data.toList.all bitC = true from HP2.out]; rfl, HB.out⟩
    · have t0 : (kind == 0) = false := beq_eq_false_iff_ne.2 k0
      have HE := hide (show val47B kind width s = decide ((s.size : Int) ≤ 64) by unfold val47B; rw [if_neg k3, if_neg k0])
      clear k3 k0
      go_enter Tryz.func108, Tryz.ntmps108
      go_wp2_with fail
      go_ret
      exact ⟨by rw [HE.out]; rfl, HB.out⟩

end Go.Proofs.YtaaplalfggofiaaGreatDoor

/-
  A region that draws its order, whose operations read and whose callees only make memory: one walk in the order of the text.
-/
namespace Go.Proofs.YtaaplalfggofiaaGreatDoor
open Go.RowKit

/-- worlds that have grown out of one -/
abbrev Gr (W0 : World) := {x : World // Below W0.heap.size W0 x}
theorem region_grown {P : Program} {id : Nat} {Q : Exit → Act → World → Prop} {a : Act} {w W0 : World} {l : List Oper} (hm : P.follows .mixedOrders = true) (hB : Region.lexB .any l.toArray = true) (hb : Below W0.heap.size W0 w)
    (h : wpQuiet P l.toArray (fun w' => ∃ u : Gr W0, w' = u.val) (fun a' => ∀ w', (∃ u : Gr W0, w' = u.val) → Q .normal a' w') l a) : (Code.region id l.toArray true).wp P Q a w :=
  wp_region_quiet (C := fun w' => ∃ u : Gr W0, w' = u.val) hm hB ⟨⟨_, below_drew hb⟩, rfl⟩ (by simpa using h)
theorem Calls.grown {P : Program} {f : FuncId} {args : Array Value} {W0 : World} {u : Gr W0} {v : Value} (h : Calls P f args u.val fun e w' => e = .returned v ∧ Below u.val.heap.size u.val w') : Calls P f args u.val fun e w'' => e = .returned v ∧ ∃ u' : Gr W0, w'' = u'.val :=
  h.mono fun _ w' ⟨he, hw⟩ => ⟨he, ⟨w', bstep u.2 hw⟩, rfl⟩
theorem Gr.cell {W0 : World} {a : Addr} {v : Value} (h : W0.cell? a = some v) (u : Gr W0) : u.val.cell? a = some v := cell_later u.2 h

end Go.Proofs.YtaaplalfggofiaaGreatDoor

/-
  Trees of api.Node in memory.
-/
namespace Go.Proofs.YtaaplalfggofiaaGreatDoor
open Go.RowKit

def cNd : Nd → List Value | .mk kind at_ name value a b c d KA kc kids => [.int .i64 kind, .int .i64 at_, .string name, .string value, .int .i64 a, .int .i64 b, .int .i64 c, .int .i64 d, .slice KA kids.length kc]
/-- lists of trees in memory -/
inductive TreesAt (w : World) (P : Nat → Prop) : Option Addr → List Nd → Prop
  | mk (A : Option Addr) (l : List Nd) (len : l.length ≤ 1353245080339) (row : Row w P 9 cNd A l) (kids : ∀ n, n ∈ l → TreesAt w P n.KA n.kids) : TreesAt w P A l
section
variable {w w' : World} {P P' : Nat → Prop} {A : Option Addr} {l : List Nd}
theorem TreesAt.len (h : TreesAt w P A l) : l.length ≤ 1353245080339 := by cases h; assumption
theorem TreesAt.row (h : TreesAt w P A l) : Row w P 9 cNd A l := by cases h; assumption
theorem TreesAt.each (h : TreesAt w P A l) : ∀ n ∈ l, TreesAt w P n.KA n.kids := by cases h; assumption
theorem TreesAt.stay (h : TreesAt w P A l) (hs : Stay P w w') : TreesAt w' P A l := by
  induction h with
  | mk A l len row _ ih => exact .mk A l len (row.stay hs) fun n hn => ih n hn
theorem TreesAt.more (h : TreesAt w P A l) (hp : ∀ b, P b → P' b) : TreesAt w P' A l := by
  induction h with
  | mk A l len row _ ih => exact .mk A l len (row.more hp) fun n hn => ih n hn
theorem TreesAt.grow (h : TreesAt w (Lo w.heap.size) A l) (hb : Below w.heap.size w w') : TreesAt w' (Lo w'.heap.size) A l := (h.stay (stay_below hb fun _ h => h)).more fun _ hb' => Nat.lt_of_lt_of_le hb' hb.size
theorem TreesAt.nil : TreesAt w P A [] := .mk A [] (by simp) Row.nil fun n hn => absurd hn (by simp)
end
theorem box9 {w : World} {N : Nat} {a b c d e f g h i : Value} {t : TypeId} (hN : w.heap[N]? = some (.cells #[a, b, c, d, e, f, g, h, i] t (0, 0))) : w.cell? ⟨N, 0, none⟩ = some a ∧ w.cell? ⟨N, 1, none⟩ = some b ∧ w.cell? ⟨N, 2, none⟩ = some c ∧ w.cell? ⟨N, 3, none⟩ = some d ∧ w.cell? ⟨N, 4, none⟩ = some e ∧ w.cell? ⟨N, 5, none⟩ = some f ∧ w.cell? ⟨N, 6, none⟩ = some g ∧ w.cell? ⟨N, 7, none⟩ = some h ∧ w.cell? ⟨N, 8, none⟩ = some i := by
  refine ⟨?_, ?_, ?_, ?_, ?_, ?_, ?_, ?_, ?_⟩ <;> (rw [cell_of_row w N _ _ t (0, 0) hN]; rfl)
/-- nine cells out of a row's fact -/
theorem nine {w : World} {b o : Nat} {v0 v1 v2 v3 v4 v5 v6 v7 v8 : Value} (h : ∀ j, j < 9 → w.cell? ⟨b, o + j, none⟩ = [v0, v1, v2, v3, v4, v5, v6, v7, v8][j]?) :
    w.cell? ⟨b, o, none⟩ = some v0 ∧ w.cell? ⟨b, o + 1, none⟩ = some v1 ∧ w.cell? ⟨b, o + 2, none⟩ = some v2 ∧ w.cell? ⟨b, o + 3, none⟩ = some v3 ∧ w.cell? ⟨b, o + 4, none⟩ = some v4 ∧ w.cell? ⟨b, o + 5, none⟩ = some v5 ∧ w.cell? ⟨b, o + 6, none⟩ = some v6 ∧ w.cell? ⟨b, o + 7, none⟩ = some v7 ∧ w.cell? ⟨b, o + 8, none⟩ = some v8 :=
  ⟨h 0 (by omega), h 1 (by omega), h 2 (by omega), h 3 (by omega), h 4 (by omega), h 5 (by omega), h 6 (by omega), h 7 (by omega), h 8 (by omega)⟩
theorem new_at {w W : World} {o : Obj} (h : w.alloc o = W) : W.heap[w.heap.size]? = some o := by rw [← h]; exact heap_alloc_new w o
/-- a value in the end, in memory that has only grown -/
def RetV (v : Value) (w : World) (e : Ending) (w' : World) : Prop := e = .returned v ∧ Below w.heap.size w w'

end Go.Proofs.YtaaplalfggofiaaGreatDoor
