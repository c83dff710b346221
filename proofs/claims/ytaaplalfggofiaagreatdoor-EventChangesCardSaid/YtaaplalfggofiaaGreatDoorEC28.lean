/-
  Several texts in one: Spans, CTruth. Each says at its head what it holds.
-/
import Derived.Test.YtaaplalfggofiaaGreatDoorEC24
import Derived.Test.YtaaplalfggofiaaGreatDoorEC14
import Derived.Test.YtaaplalfggofiaaGreatDoorEC4
import Derived.Test.YtaaplalfggofiaaGreatDoorEC21
import Derived.Test.YtaaplalfggofiaaGreatDoorEC8
import Derived.Test.YtaaplalfggofiaaGreatDoorShelf
import Derived.Test.YtaaplalfggofiaaGreatDoorEC11
import Derived.Test.YtaaplalfggofiaaGreatDoorEC10
import Derived.Test.YtaaplalfggofiaaGreatDoorEC27
import Derived.Test.YtaaplalfggofiaaGreatDoorEC20

/-
  condition.spans: the spans of a function of the values of signals.
-/
namespace Go.Proofs.YtaaplalfggofiaaGreatDoor
open Go.RowKit

theorem envL_get {zs : List Int} : ∀ {vs : List ByteArray} {k : Nat} {z : Int} {b : ByteArray}, zs.Nodup → zs[k]? = some z → vs[k]? = some b → envL zs vs z = b := by
  induction zs with
  | nil => intro vs k z b _ h _; simp at h
  | cons y zs ih =>
    intro vs k z b hn hz hb
    cases vs with
    | nil => simp at hb
    | cons c vs =>
      rw [List.nodup_cons] at hn
      cases k with
      | zero =>
        simp at hz hb
        subst hz hb
        rw [envL, if_pos rfl]
      | succ k =>
        simp at hz hb
        rw [envL, if_neg (fun e => hn.1 (by rw [← e]; exact List.mem_of_getElem? hz))]
        exact ih hn.2 hz hb
theorem envL_no {x : Int} : ∀ {zs : List Int} {vs : List ByteArray}, x ∉ zs → envL zs vs x = ⟨#[]⟩
  | [], _, _ => rfl
  | y :: zs, [], _ => rfl
  | y :: zs, c :: vs, h => by
    rw [envL, if_neg (fun e => h (by rw [e]; simp))]
    exact envL_no fun h2 => h (by simp [h2])
open Classical in
/-- the map behind k stores -/
noncomputable def envK (zs : List Int) (vs : List ByteArray) (k : Nat) (x : Int) : ByteArray := if x ∈ zs.take k then envL zs vs x else ⟨#[]⟩
theorem envK_zero (zs : List Int) (vs : List ByteArray) : (fun _ => (⟨#[]⟩ : ByteArray)) = envK zs vs 0 := by
  funext x
  unfold envK
  rw [if_neg (by simp)]
theorem envK_succ {zs : List Int} {vs : List ByteArray} {k : Nat} {z : Int} {b : ByteArray} (hn : zs.Nodup) (hz : zs[k]? = some z) (hb : vs[k]? = some b) : (fun i => if i = z then b else envK zs vs k i) = envK zs vs (k + 1) := by
  funext x
  have hlt := (List.getElem?_eq_some_iff.1 hz).1
  have hzk : zs[k] = z := (List.getElem?_eq_some_iff.1 hz).2
  unfold envK
  rw [List.take_succ_eq_append_getElem hlt, hzk]
  by_cases h : x = z
  · subst h
    rw [if_pos rfl, if_pos (by simp)]
    exact (envL_get hn hz hb).symm
  · rw [if_neg h]
    by_cases h2 : x ∈ zs.take k
    · rw [if_pos h2, if_pos (by simp [h2])]
    · rw [if_neg h2, if_neg (by simp [h2, h])]
theorem envK_all {zs : List Int} {vs : List ByteArray} : envK zs vs zs.length = envL zs vs := by
  funext x
  unfold envK
  rw [List.take_length]
  by_cases h : x ∈ zs
  · rw [if_pos h]
  · rw [if_neg h, envL_no h]

def SpsRel (G : List ByteArray → ByteArray) (rows : List RwM) (w : World) (out i : Value) (wr : World) : Prop :=
  ∃ (k : Nat) (A : Option Addr) (c : Nat) (l : List Spn), k ≤ rows.length ∧ i = .int .i64 (k : Int) ∧ out = .slice A l.length c ∧ l = spL G ((rows.take k).map RwM.rw) ∧ OwnSp wr w.heap.size A c l ∧ Below w.heap.size w wr
def MpRel (zs : List Int) (vs : List ByteArray) (B : Nat) (V : World) (i : Value) (wr : World) : Prop :=
  ∃ k : Nat, k ≤ zs.length ∧ i = .int .i64 (k : Int) ∧ MapS wr B k (envK zs vs k) ∧ But V.heap.size (some B) V wr
theorem RwsAt.grow {w w' : World} {A : Option Addr} {l : List RwM} (h : RwsAt w (Lo w.heap.size) A l) (hb : Below w.heap.size w w') : RwsAt w' (Lo w'.heap.size) A l :=
  ⟨h.row.grow hb, fun r hr => ((h.each r hr).stay (stay_below hb fun _ h => h)).more fun _ hb' => Nat.lt_of_lt_of_le hb' hb.size⟩

set_option maxRecDepth 100000 in
set_option maxHeartbeats 8000000 in
theorem spans_any (ID : Nat) (caps : Array Value) (hE : EntersF ID) (G : List ByteArray → ByteArray) (RA ZA : Option Addr) (rc zc : Nat) (rows : List RwM) (zs : List Int) (w : World) (hR : RwsAt w (Lo w.heap.size) RA rows) (hZ : IntsAt w w.heap.size ZA zs)
    (hn : zs.Nodup) (hi : ∀ z ∈ zs, I64 z) (hrl : rows.length ≤ 4001) (hzl : zs.length ≤ 1000) (hvl : ∀ r ∈ rows, r.vs.length = zs.length) (hvs : ∀ r ∈ rows, ∀ v ∈ r.vs, v.size ≤ 130)
    (hF : ∀ r ∈ rows, ∀ (W : World) (Bm q : Nat), Below w.heap.size w W → MapS W Bm q (envL zs r.vs) → Calls Tryz.prog ID (#[.map (some Bm)] ++ caps) W (RetV (.string (G r.vs)) W)) :
    Calls Tryz.prog 59 #[.slice RA rows.length rc, .slice ZA zs.length zc, .func (.func ID) #[] caps] w fun e w' => ∃ (A : Option Addr) (c : Nat), e = .returned (.slice A (spL G (rows.map RwM.rw)).length c) ∧ OwnSp w' w.heap.size A c (spL G (rows.map RwM.rw)) ∧ Below w.heap.size w w' := by
  obtain ⟨i0, hi0, hz0, hz1, hz2⟩ := info_parts infoSp
  have HR := hide hR
  have HZ := hide hZ
  have HN := hide hn
  have HI := hide hi
  have HVL := hide hvl
  have HVS := hide hvs
  have HF := hide hF
  have hmm := @run_makeMap Tryz.prog
  unfold EntersF at hE
  clear hR hZ hn hi hvl hvs hF
  go_enter Tryz.func59, Tryz.ntmps59
  go_upto_region 3 with (fail)
  go_loopw [7, 17] (fun out i wr => SpsRel G rows w out i wr) (fun _ i _ => rows.length - (intOf i).toNat)
  case atStart => exact ⟨0, none, 0, [], Nat.zero_le _, rfl, rfl, rfl, OwnSp.nil _ _, Below.refl _ _⟩
  case round =>
    obtain ⟨V, rfl⟩ : ∃ w2 : World, w2 = wr := ⟨_, rfl⟩
    obtain ⟨k, A, c, l, hk, rfl, rfl, hl, hown, hb⟩ := hrel
    have HOWN := hide hown
    have HB := hide hb
    have HL := hide hl
    clear hown hb hl
    by_cases hlt : k < rows.length
    · have hRr := HR.out.grow HB.out
      obtain ⟨bk, ok, rfl, hbk, hc⟩ := hRr.row.at_ hlt
      have hmem := List.getElem_mem hlt
      have hst := hRr.each _ hmem
      have hvl := HVL.out _ hmem
      have hvs := HVS.out _ hmem
      have HFr := hide (HF.out _ hmem)
      have HTK := hide (show spL G ((rows.take (k + 1)).map RwM.rw) = spStep l rows[k].f rows[k].t (G rows[k].vs) by rw [List.take_succ_eq_append_getElem hlt, List.map_append, List.map_cons, List.map_nil, spL_snoc, HL.out]; rfl)
      have hll : l.length ≤ k := by rw [HL.out]; have := spL_len G ((rows.take k).map RwM.rw); rw [List.length_map, List.length_take] at this; omega
      generalize rows[k] = r at *
      obtain ⟨rf, rt, VA, vc, vs⟩ := r
      dsimp only at hst hvl hvs HFr HTK
      unfold encRw at hc
      dsimp only at hc
      have c0 := hc 0 (by omega)
      have c1 := hc 1 (by omega)
      have c2 := hc 2 (by omega)
      simp only [List.getElem?_cons_zero, List.getElem?_cons_succ, Nat.add_zero] at c0 c1 c2
      obtain ⟨V1, hV1⟩ : ∃ V1, V.alloc (.cells #[.int .i64 rf, .int .i64 rt, .slice VA vs.length vc] 195) = V1 := ⟨_, rfl⟩
      have hb1 : Below V.heap.size V V1 := by rw [← hV1]; exact (Below.refl _ _).alloc (Nat.le_refl _) _
      have g1 : V1.heap[V.heap.size]? = some (.cells #[.int .i64 rf, .int .i64 rt, .slice VA vs.length vc] 195 (0, 0)) := by rw [← hV1]; exact heap_alloc_new V _
      have HV1 := hide hV1
      have HB1 := hide hb1
      have HG1 := hide g1
      have HST := hide hst
      have hlv : zs.length = vs.length := hvl.symm
      have HLV := hide hlv
      clear hc hRr hmem hst hV1 hb1 g1 hvl hlv
      go_upto_region 5 with (fail)
      rw [HV1.out]
      clear HV1 c0 c1 c2
      go_upto_region 6 with (fail)
      clear hmm
      obtain ⟨Bm, hBm⟩ : ∃ Bm, V1.heap.size = Bm := ⟨_, rfl⟩
      obtain ⟨V2, hV2⟩ : ∃ V2, V1.alloc (.map #[] 0) = V2 := ⟨_, rfl⟩
      have hm0 : MapS V2 Bm 0 (envK zs vs 0) := by rw [← envK_zero, ← hV2, ← hBm]; exact MapS.made V1
      have hb2 : Below V1.heap.size V1 V2 := by rw [← hV2]; exact (Below.refl _ _).alloc (Nat.le_refl _) _
      have hVB : V.heap.size < Bm := by have := box_lt HG1.out; omega
      have HB2 := hide (bstep HB1.out hb2)
      have HG2 := hide ((hb2.block _ (box_lt HG1.out)).trans HG1.out)
      have HM0 := hide hm0
      have hBl : Bm < V2.heap.size := hm0.lt
      try rw [hV2]
      try rw [hBm]
      clear hm0 hb2 hV2 hBm HG1
      go_upto_region 7 with (fail)
      go_loopw [24] (fun i wq => MpRel zs vs Bm V2 i wq) (fun i _ => zs.length - (intOf i).toNat)
      case atStart => exact ⟨0, Nat.zero_le _, rfl, HM0.out, But.refl _ _ _⟩
      case round =>
        obtain ⟨W, rfl⟩ : ∃ w2 : World, w2 = wr := ⟨_, rfl⟩
        obtain ⟨q, hq, rfl, hmap, hbut⟩ := hrel
        have HMP := hide hmap
        have HBT := hide hbut
        have hold : ∀ b, b < V2.heap.size → b ≠ Bm → W.heap[b]? = V2.heap[b]? := fun b h1 h2 => hbut.block b h1 (fun e => by injection e with e; exact h2 e)
        have hvw : Below V.heap.size V W := ⟨hbut.os.trans HB2.out.os, hbut.tape.trans HB2.out.tape, hbut.output.trans HB2.out.output, Nat.le_trans HB2.out.size hbut.size, fun b h => (hold b (by have := HB2.out.size; omega) (by omega)).trans (HB2.out.block b h)⟩
        have HVW := hide hvw
        clear hmap hbut
        by_cases hlq : q < zs.length
        · obtain ⟨zb, zo, rfl, hzb, hzc⟩ := (HZ.out.step (bstep HB.out hvw)).at_ hlq
          obtain ⟨sb, so, rfl, hsb, hsc⟩ := (HST.out.stay (stay_below hvw fun _ h => h)).at_ (show q < vs.length by have := HLV.out; omega)
          have hbx := (hold _ (by omega) (by omega)).trans HG2.out
          have n2 := cell_of_row W V.heap.size 2 _ _ (0, 0) hbx
          simp only [List.getElem?_toArray, List.getElem?_cons_zero, List.getElem?_cons_succ] at n2
          have hzq : zs[q]? = some zs[q] := List.getElem?_eq_getElem hlq
          have hsq : vs[q]? = some (vs[q]'(by have := HLV.out; omega)) := List.getElem?_eq_getElem _
          have hiq := HI.out _ (List.getElem_mem hlq)
          have hsz := hvs _ (List.mem_of_getElem? hsq)
          have hqv : q < vs.length := by have := HLV.out; omega
          have HENV := hide (envK_succ HN.out hzq hsq)
          generalize zs[q] = z at *
          generalize vs[q] = sv at *
          obtain ⟨D, hD, hset⟩ := HMP.out
          have HD := hide hD
          have HSET := hide hset
          have HKEY := hide (keyOf_B hiq)
          have HVAL := hide (plainElem_string (H := Unit) Tryz.underlying9 (s := sv) (by unfold maxLen; omega))
          have hqn : q < maxLen := by unfold maxLen; omega
          clear hD hset hbx hzq hsq
          go_wp2_with (at_mapUpdate; (refine wpList_mapUpdate_own _ rfl _ _ _ 50 rfl 3 9 intKeyB Tryz.underlying50 _ Bm q D rfl HD.out hqn _ _ (.int .i64 z) rfl rfl HKEY.out (.lit (.string sv.data.toList)) [] HVAL.out ?_); intro W4 hm4 hg4)
          have hp := MapS.put hiq hm4 HD.out HSET.out
          rw [HENV.out] at hp
          exact ⟨⟨q + 1, hlq, by go_num, hp, HBT.out.trans ⟨hg4.os, hg4.tape, hg4.output, hg4.size, fun b hb hx => hg4.block b (Nat.lt_of_lt_of_le hb HBT.out.size) hx⟩⟩, by simp [intOf]; omega⟩
        · have hqe : q = zs.length := by omega
          have hmp := HMP.out
          rw [hqe, envK_all] at hmp
          have HC := hide (HFr.out W Bm zs.length (bstep HB.out hvw) hmp)
          have hbx := (hold _ (by omega) (by omega)).trans HG2.out
          have HBX := hide hbx
          clear hmp hqe hbx hold hvw
          generalize G vs = v at *
          go_wp2_with fail
          refine HC.out.mono ?_
          rintro e w5 ⟨rfl, hb5⟩
          have HB5 := hide (bstep HVW.out hb5)
          have hbx5 := (hb5.block _ (box_lt HBX.out)).trans HBX.out
          have n0 := cell_of_row w5 V.heap.size 0 _ _ (0, 0) hbx5
          have n1 := cell_of_row w5 V.heap.size 1 _ _ (0, 0) hbx5
          simp only [List.getElem?_toArray, List.getElem?_cons_zero, List.getElem?_cons_succ] at n0 n1
          have hown5 : OwnSp w5 w.heap.size A c l := own_block HOWN.out fun g hg => HB5.out.block g (own_ob HOWN.out g hg).2
          have hws := HB.out.size
          have hV5 := HB5.out.size
          have HBW := hide (bstep HB.out HB5.out)
          have hN5 := box_lt hbx5
          have HOA := hide (World.ownsRow.alloc hown5 (.cells #[.int .i64 rf, .int .i64 rt, .string v] 70))
          have HNW := hide (heap_alloc_new w5 (.cells #[.int .i64 rf, .int .i64 rt, .string v] 70))
          have HO5 := hide hown5
          clear hbx5 hown5 hb5 HC HM0 HST HFr HMP HBT
          rcases List.eq_nil_or_concat l with h0 | ⟨l', x, h0⟩
          · subst h0
            have HSP := hide (show spL G ((rows.take (k + 1)).map RwM.rw) = [⟨rf, rt, v⟩] by rw [HTK.out]; rfl)
            clear HTK HL
            go_wp2_with (at_builtin; (refine append_src rfl _ _ 65 rfl w.heap.size 70 i0 _ 3 32 Tryz.underlying65 hi0 hz0 hz1 hz2 rfl (by decide) (.slice A 0 c) 0 [] rfl HOA.out (some ⟨w5.heap.size, 0, none⟩) 1 1 (encSp ⟨rf, rt, v⟩) rfl rfl (src_block (t := 70) (fr := (0, 0)) HNW.out) (sp_one _) (by simp only [maxLen]; omega) (by omega) (by simp; omega) ?_); intro v' w6 hown6 hg6)
            obtain ⟨A6, c6, rfl, ho6⟩ := OwnSp.of_row (l := [⟨rf, rt, v⟩]) hown6 rfl rfl
            refine ⟨⟨k + 1, A6, c6, [⟨rf, rt, v⟩], hlt, by go_num, rfl, HSP.out.symm, ho6, ?_⟩, by simp [intOf]; omega⟩
            exact (HBW.out.alloc (by omega) _).grown hg6 (by simp; omega) (fun n hn => (own_ob HO5.out n (by rw [ob_eq] at hn; exact hn)).1)
          · rw [List.concat_eq_append] at h0
            subst h0
            obtain ⟨g, rfl, hg1, hg2⟩ := HO5.out.place (by simp)
            have hlen : (l' ++ [x]).length = l'.length + 1 := by simp
            obtain ⟨p0, p1, p2⟩ := HO5.out.cell (i := l'.length) (x := x) (by simp)
            have fz := World.ownsRow.frozenAt HO5.out (l'.length * 3 + 1)
            have HAD := hide (spStep_snoc l' x rf rt v)
            rw [hlen] at hll
            have hi1 : ((l'.length + 1 : Nat) : Int) - 1 = (l'.length : Int) := by omega
            by_cases hv : x.v = v
            · have HSP := hide (show spL G ((rows.take (k + 1)).map RwM.rw) = l' ++ [⟨x.f, rt, x.v⟩] by rw [HTK.out, HAD.out, if_pos hv])
              have tv : (x.v.toList == v.toList) = true := by rw [hv]; simp
              have HST9 := hide (HO5.out.setTo rt)
              have hlen2 : (l' ++ [(⟨x.f, rt, x.v⟩ : Spn)]).length = l'.length + 1 := by simp
              clear HTK HL HAD hv
              go_wp2_with fail
              refine ⟨⟨k + 1, some ⟨g, 0, none⟩, c, l' ++ [⟨x.f, rt, x.v⟩], hlt, by go_num, by rw [hlen2], HSP.out.symm, HST9.out, ?_⟩, by simp [intOf]; omega⟩
              exact HBW.out.setCell (p := ⟨g, l'.length * 3 + 1, none⟩) hg1 _
            · have HSP := hide (show spL G ((rows.take (k + 1)).map RwM.rw) = l' ++ [x] ++ [⟨rf, rt, v⟩] by rw [HTK.out, HAD.out, if_neg hv])
              have tv : (x.v.toList == v.toList) = false := beq_eq_false_iff_ne.2 (fun e => hv (by rw [ByteArray.toList_eq, ByteArray.toList_eq] at e; exact ByteArray.ext (Array.toList_inj.1 e)))
              have hlen2 : (l' ++ [x] ++ [(⟨rf, rt, v⟩ : Spn)]).length = l'.length + 1 + 1 := by simp
              rw [hlen] at HOA
              clear HTK HL HAD hv
              go_wp2_with (at_builtin; (refine append_src rfl _ _ 65 rfl w.heap.size 70 i0 _ 3 32 Tryz.underlying65 hi0 hz0 hz1 hz2 rfl (by decide) (.slice (some ⟨g, 0, none⟩) (l'.length + 1) c) (l'.length + 1) (encSps (l' ++ [x])) rfl HOA.out (some ⟨w5.heap.size, 0, none⟩) 1 1 (encSp ⟨rf, rt, v⟩) rfl rfl (src_block (t := 70) (fr := (0, 0)) HNW.out) (sp_one _) (by simp only [maxLen]; omega) (by omega) (by simp; omega) ?_); intro v' w6 hown6 hg6)
              obtain ⟨A6, c6, rfl, ho6⟩ := OwnSp.of_row (l := l' ++ [x] ++ [⟨rf, rt, v⟩]) hown6 hlen2.symm (by rw [encSps_app (l' ++ [x])]; rfl)
              rw [hlen2]
              refine ⟨⟨k + 1, A6, c6, l' ++ [x] ++ [⟨rf, rt, v⟩], hlt, by go_num, by rw [hlen2], HSP.out.symm, ho6, ?_⟩, by simp [intOf]; omega⟩
              exact (HBW.out.alloc (by omega) _).grown hg6 (by simp; omega) (fun n hn => (own_ob HO5.out n (by rw [ob_eq] at hn; exact hn)).1)
    · have hke : k = rows.length := by omega
      have hl2 := HL.out
      rw [hke, List.take_length] at hl2
      have HP := hide (show ∃ (A' : Option Addr) (c' : Nat), Ending.returned (.slice A l.length c) = .returned (.slice A' (spL G (rows.map RwM.rw)).length c') ∧ OwnSp V w.heap.size A' c' (spL G (rows.map RwM.rw)) ∧ Below w.heap.size w V from ⟨A, c, by rw [← hl2], by rw [← hl2]; exact HOWN.out, HB.out⟩)
      clear hke hl2
      go_wp2_with fail
      go_ret
      exact HP.out

end Go.Proofs.YtaaplalfggofiaaGreatDoor

/-
  condition.Truth: the sets of times of a condition of a source.
-/
namespace Go.Proofs.YtaaplalfggofiaaGreatDoor
open Go.RowKit

def inR (v : Wv) (f t : Int) : Prop := 0 ≤ f ∧ f ≤ t ∧ t ≤ v.fin
/-- the signals of a tree, each once, in order -/
def SigsOf (n : Nd) (zs : List Int) : Prop := zs.Nodup ∧ (∀ x ∈ zs, I64 x) ∧ (∀ x, I64 x → (x ∈ zs ↔ x ∈ sigF n)) ∧ zs.Pairwise (· ≤ ·)
/-- no event among the signals of a resolved tree -/
theorem agr_sig {x k d : Int} : ∀ n : Nd, agrF x k d n = true → x ∈ sigF n → ∃ m : Nd, m.kind = 1 ∧ m.c = k ∧ ∀ p : Nd → Prop, (∀ q : Nd, p q → ∀ r ∈ q.kids, p r) → p n → p m := by
  intro n
  induction n using Nd.ind with
  | h n ih =>
  intro ha hx
  rw [sigF_eq] at hx
  unfold sigB at hx
  rcases List.mem_append.1 hx with hx | hx
  · by_cases k1 : n.kind = 1
    · rw [if_pos k1] at hx
      simp at hx
      subst hx
      exact ⟨n, k1, (agr_here ha k1).1, fun p _ h => h⟩
    · rw [if_neg k1] at hx; cases hx
  · obtain ⟨l, hl, hx⟩ := List.mem_flatten.1 hx
    obtain ⟨m, hm, rfl⟩ := List.mem_map.1 hl
    obtain ⟨q, q1, q2, q3⟩ := ih m hm (agr_kid ha hm) hx
    exact ⟨q, q1, q2, fun p hp h => q3 p hp (hp n h m hm)⟩
/-- what the signals' nodes of a good tree are -/
def Gd (n : Nd) : Prop := resF n = true ∨ (∃ p, typeF n = some p) 
theorem Gd.kids {n : Nd} (h : Gd n) : ∀ k ∈ n.kids, Gd k := by
  intro k hk
  have typed : ∀ p, typeF n = some p → ∃ q, typeF k = some q := fun p hp => by
    rw [typeF_eq] at hp
    unfold typeB at hp
    have hne : n.kids ≠ [] := fun e => by rw [e] at hk; cases hk
    split at hp
    · first | cases hp | (rw [if_pos hne] at hp; cases hp)
    · split at hp
      · first | cases hp | (rw [if_pos hne] at hp; cases hp)
      · split at hp
        · first | cases hp | (rw [if_pos hne] at hp; cases hp)
        · split at hp
          · first | cases hp | (rw [if_pos hne] at hp; cases hp)
          · split at hp
            · rename_i ws hws
              obtain ⟨hl, hat⟩ := widthsF_at hws
              obtain ⟨i, hi⟩ := List.getElem?_of_mem hk
              have hlt : i < ws.length := by rw [hl, List.length_map]; exact (List.getElem?_eq_some_iff.1 hi).1
              have := hat i ws[i] (List.getElem?_eq_getElem hlt)
              rw [List.getElem?_map, hi] at this
              exact ⟨_, by injection this⟩
            · cases hp
  rcases h with h | ⟨p, hp⟩
  · rw [resF_eq] at h
    unfold resB at h
    split at h
    · have : n.kids = [] := by simpa using h
      rw [this] at hk
      cases hk
    · split at h
      · rw [Bool.and_eq_true] at h
        cases ht : typedK n.kids with
        | none => rw [ht] at h; cases h.2
        | some q =>
          obtain ⟨u, hu⟩ := typedK_some ht
          exact .inr ⟨_, hu k hk⟩
      · split at h
        · rw [Bool.and_eq_true] at h
          cases ht : typedK n.kids with
          | none => rw [ht] at h; cases h.2
          | some q =>
            obtain ⟨u, hu⟩ := typedK_some ht
            exact .inr ⟨_, hu k hk⟩
        · split at h
          · match hkk : n.kids, h, hk with
            | [x], h, hk => simp at hk; subst hk; exact .inl h
          · split at h
            · match hkk : n.kids, h, hk with
              | [x, y], h, hk =>
                have h : (resF x && resF y) = true := h
                rw [Bool.and_eq_true] at h
                simp at hk
                rcases hk with rfl | rfl
                · exact .inl h.1
                · exact .inl h.2
            · exact .inr (typed _ (of_decide_eq_true h))
  · exact .inr (typed p hp)
theorem Gd.sig {m : Nd} (h : Gd m) (hk : m.kind = 1) : m.c ≠ 3 := by
  have typed : ∀ p, typeF m = some p → m.c ≠ 3 := fun p hp e => by
    rw [typeF_eq] at hp
    unfold typeB at hp
    rw [if_pos hk] at hp
    split at hp
    · cases hp
    · split at hp
      · omega
      · split at hp
        · omega
        · cases hp
  rcases h with h | ⟨p, hp⟩
  · rw [resF_eq] at h
    unfold resB at h
    rw [if_neg (by omega), if_neg (by omega), if_neg (by omega), if_neg (by omega), if_neg (by omega)] at h
    exact typed _ (of_decide_eq_true h)
  · exact typed p hp
theorem Gd.ev {n : Nd} (h : Gd n) : ∀ x ∈ sigF n, ∀ k d, agrF x k d n = true → k ≠ 3 := fun x hx k d ha => by
  obtain ⟨m, m1, m2, m3⟩ := agr_sig n ha hx
  rw [← m2]
  exact (m3 Gd (fun q hq => hq.kids) h).sig m1

theorem cov_mem {gs : List (Int → ByteArray)} : ∀ {a b : Int} {rs : List Rw} {r : Rw}, Cov gs a b rs → r ∈ rs → a ≤ r.f ∧ r.f ≤ r.t ∧ r.t < b ∧ ∀ u, r.f ≤ u → u ≤ r.t → r.vs = gs.map (· u)
  | a, b, x :: rs, r, h, hr => by
    obtain ⟨h1, h2, h3, h4⟩ := h
    have hle := h4.le
    rcases List.mem_cons.1 hr with rfl | hr
    · exact ⟨by omega, by omega, by omega, fun u u1 u2 => h3 u (by omega) u2⟩
    · obtain ⟨k1, k2, k3, k4⟩ := cov_mem h4 hr
      exact ⟨by omega, k2, k3, k4⟩
theorem env_congr {env env' : Int → ByteArray} (n : Nd) : (∀ x ∈ sigF n, env x = env' x) → EnvOk env n → EnvOk env' n := by
  induction n using Nd.ind with
  | h n ih =>
  intro h he
  obtain ⟨h1, h2, h3⟩ := (EnvOk_eq env n).1 he
  refine (EnvOk_eq env' n).2 ⟨fun k1 => ?_, h2, fun k hk => ih k hk (fun x hx => h x (sig_kid hk hx)) (h3 k hk)⟩
  rw [← h n.a (by rw [sigF_eq]; unfold sigB; simp [k1])]
  exact h1 k1
theorem sig_I64 (n : Nd) : okF n → ∀ x ∈ sigF n, I64 x := by
  induction n using Nd.ind with
  | h n ih =>
  intro hok x hx
  obtain ⟨h1, h2⟩ := (okF_eq n).1 hok
  rw [sigF_eq] at hx
  unfold sigB at hx
  rcases List.mem_append.1 hx with hx | hx
  · by_cases k1 : n.kind = 1
    · rw [if_pos k1] at hx
      simp at hx
      subst hx
      exact h1.2.1
    · rw [if_neg k1] at hx; cases hx
  · obtain ⟨l, hl, hx⟩ := List.mem_flatten.1 hx
    obtain ⟨m, hm, rfl⟩ := List.mem_map.1 hl
    exact ih m hm (h2 m hm) x hx
/-- the values of a row -/
theorem row_env {v : Wv} (hv : SmallOk v) {n : Nd} {zs : List Int} (hz : SigsOf n zs) (hok : okF n) (hfit : fitE v n zs = 0) (hsz : n.fold (fun m l => m.value.size ≤ 130 ∧ ∀ p ∈ l, p)) (u : Int) :
    EnvOk (envL zs ((zs.map (gOf v)).map (· u))) n ∧ truF (envL zs ((zs.map (gOf v)).map (· u))) n = truF (envW v u) n ∧ ∀ b ∈ (zs.map (gOf v)).map (· u), b.size ≤ 130 := by
  have hin : ∀ x ∈ sigF n, x ∈ zs := fun x hx => (hz.2.2.1 x (sig_I64 n hok x hx)).2 hx
  have hsg := fitE_ok.1 hfit
  have heq : ∀ x ∈ sigF n, envW v u x = envL zs ((zs.map (gOf v)).map (· u)) x := fun x hx => (envL_at v u (hin x hx)).symm
  refine ⟨env_congr n heq (env_ok_of hv u n (fun x hx => sigE_zero (hsg x (hin x hx))) hsz), (tru_congr n heq).symm, fun b hb => ?_⟩
  rw [List.map_map] at hb
  obtain ⟨x, hx, rfl⟩ := List.mem_map.1 hb
  obtain ⟨k1, k2, _⟩ := sigE_zero (hsg x hx)
  have := (valS_ok (hv.each _ (sgn_mem k1 k2).2) u).2
  show (valS (sgnAt v x) u).size ≤ 130
  omega

end Go.Proofs.YtaaplalfggofiaaGreatDoor
