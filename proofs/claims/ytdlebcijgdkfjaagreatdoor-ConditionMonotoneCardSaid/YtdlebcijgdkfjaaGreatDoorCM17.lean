/-
  Several texts in one: Value47, QuietB, Nd, SpV. Each says at its head what it holds.
-/
import Derived.Test.YtdlebcijgdkfjaaGreatDoorCM16
import Derived.Test.YtdlebcijgdkfjaaGreatDoorCM15
import Derived.Test.YtdlebcijgdkfjaaGreatDoorCM4
import Derived.Test.YtdlebcijgdkfjaaGreatDoorCM3
import Derived.Deep.DeepCutAuto
import Derived.Deep.QuietTactic
import Derived.BigQuiet
import Derived.IntWalk
import Derived.Test.YtdlebcijgdkfjaaGreatDoorCM2
import Derived.Test.YtdlebcijgdkfjaaGreatDoorCM14

/-
  wavestoreref47.value: what it says of a string.
-/
namespace Go.Proofs.YtdlebcijgdkfjaaGreatDoor
open Go.RowKit

/-- whether a string is a value of a signal -/
def val47B (kind width : Int) (s : ByteArray) : Bool := if kind = 3 then s.toList.isEmpty else if kind = 0 then s.data.toList.all bitC && ((s.size : Int) == width) else decide ((s.size : Int) ≤ 64)
def ValueSays (kind width : Int) (s : ByteArray) : Prop := (kind = 0 → (s.size : Int) = width ∧ s.data.toList.all bitC = true) ∧ (kind ≠ 0 → s.size ≤ 64)
theorem empty_size {s : ByteArray} (h : s.toList.isEmpty = true) : s.size = 0 := by
  rw [ByteArray.toList_eq, List.isEmpty_iff] at h
  show s.data.size = 0
  rw [← Array.length_toList, h]
  rfl
theorem val47_says {kind width : Int} {s : ByteArray} (h : val47B kind width s = true) : ValueSays kind width s := by
  unfold val47B at h
  by_cases k3 : kind = 3
  · rw [if_pos k3] at h
    exact ⟨fun e => by omega, fun _ => by rw [empty_size h]; decide⟩
  · rw [if_neg k3] at h
    by_cases k0 : kind = 0
    · rw [if_pos k0, Bool.and_eq_true] at h
      exact ⟨fun _ => ⟨eq_of_beq h.2, h.1⟩, fun e => absurd k0 e⟩
    · rw [if_neg k0] at h
      exact ⟨fun e => absurd e k0, fun _ => by have := of_decide_eq_true h; omega⟩
theorem all_false {s : ByteArray} {k : Nat} (hk : k < s.size) (h0 : s[k] ≠ 48) (h1 : s[k] ≠ 49) (h2 : s[k] ≠ 120) (h3 : s[k] ≠ 122) : s.data.toList.all bitC = false := by
  rw [← Bool.not_eq_true, List.all_eq_true]
  intro ha
  have := ha s[k] (by show s.data[k] ∈ _; simp)
  unfold bitC at this
  simp [h0, h1, h2, h3] at this
set_option maxRecDepth 100000 in
set_option maxHeartbeats 2000000 in
theorem value47_any (kind width : Int) (CA : Option Addr) (n cc : Nat) (s : ByteArray) (w : World) (hs : s.size ≤ 9223372036854775807) :
    Calls Tryz.prog 92 #[.agg #[.int .i64 kind, .int .i64 width, .slice CA n cc], .string s] w fun e w' => e = .returned (.bool (val47B kind width s)) ∧ Below w.heap.size w w' := by
  have hx := heap_alloc_new w (.cells #[.int .i64 kind, .int .i64 width, .slice CA n cc] 60)
  have HB := hide (show Below w.heap.size w (w.alloc (.cells #[.int .i64 kind, .int .i64 width, .slice CA n cc] 60)) from (Below.refl _ _).alloc (Nat.le_refl _) _)
  by_cases k3 : kind = 3
  · subst k3
    have HE := hide (show s.toList.isEmpty = val47B 3 width s from rfl)
    go_enter Tryz.func92, Tryz.ntmps92
    go_wp2_with fail
    go_ret
    exact ⟨by rw [← HE.out]; rfl, HB.out⟩
  · have t3 : (kind == 3) = false := beq_eq_false_iff_ne.2 k3
    by_cases k0 : kind = 0
    · subst k0
      have HY := hide (show val47B 0 width s = (s.data.toList.all bitC && ((s.size : Int) == width)) from rfl)
      clear k3 t3
      go_enter Tryz.func92, Tryz.ntmps92
      go_wp2_with fail
      go_loop [5] (fun i => KnRel allBits s i) (fun i => s.size - (intOf i).toNat)
      case atStart => exact ⟨0, Nat.zero_le _, rfl, rfl⟩
      case round =>
        obtain ⟨k, hk, rfl, hp⟩ := hrel
        have HP := hide hp
        clear hp
        by_cases hlt : k < s.size
        · have HT := hide (bit_take hlt)
          by_cases h0 : s[k] = 48
          · have HK := hide (show bitC s[k] = true by rw [h0]; rfl)
            have t0 : ((s[k].toNat : Int) != 48) = false := by rw [h0]; rfl
            clear h0
            go_wp2_with fail
            go_round
            case rel => exact ⟨k + 1, by omega, by go_num, by rw [HT.out, HP.out, HK.out]; rfl⟩
            case measure => simp [intOf]; omega
          · have t0 : ((s[k].toNat : Int) != 48) = true := u8_ne h0
            have H0 := hide h0
            clear h0
            by_cases h1 : s[k] = 49
            · have HK := hide (show bitC s[k] = true by rw [h1]; rfl)
              have t1 : ((s[k].toNat : Int) != 49) = false := by rw [h1]; rfl
              clear h1
              go_wp2_with fail
              go_round
              case rel => exact ⟨k + 1, by omega, by go_num, by rw [HT.out, HP.out, HK.out]; rfl⟩
              case measure => simp [intOf]; omega
            · have t1 : ((s[k].toNat : Int) != 49) = true := u8_ne h1
              have H1 := hide h1
              clear h1
              by_cases h2 : s[k] = 120
              · have HK := hide (show bitC s[k] = true by rw [h2]; rfl)
                have t2 : ((s[k].toNat : Int) != 120) = false := by rw [h2]; rfl
                clear h2
                go_wp2_with fail
                go_round
                case rel => exact ⟨k + 1, by omega, by go_num, by rw [HT.out, HP.out, HK.out]; rfl⟩
                case measure => simp [intOf]; omega
              · have t2 : ((s[k].toNat : Int) != 120) = true := u8_ne h2
                have H2 := hide h2
                clear h2
                by_cases h3 : s[k] = 122
                · have HK := hide (show bitC s[k] = true by rw [h3]; rfl)
                  have t3 : ((s[k].toNat : Int) != 122) = false := by rw [h3]; rfl
                  clear h3
                  go_wp2_with fail
                  go_round
                  case rel => exact ⟨k + 1, by omega, by go_num, by rw [HT.out, HP.out, HK.out]; rfl⟩
                  case measure => simp [intOf]; omega
                · have t3 : ((s[k].toNat : Int) != 122) = true := u8_ne h3
                  have HF := hide (all_false hlt H0.out H1.out H2.out h3)
                  clear h3
                  go_wp2_with fail
                  go_ret
                  exact ⟨by rw [HY.out, HF.out]; rfl, HB.out⟩
        · have hke : k = s.size := by omega
          subst hke
          have hp := HP.out
          rw [List.take_of_length_le (by simp)] at hp
          have HP2 := hide hp
          clear hp
          go_wp2_with fail
          go_ret
          exact ⟨by rw [HY.out, show s.data.toList.all bitC = true from HP2.out]; rfl, HB.out⟩
    · have t0 : (kind == 0) = false := beq_eq_false_iff_ne.2 k0
      have HE := hide (show val47B kind width s = decide ((s.size : Int) ≤ 64) by unfold val47B; rw [if_neg k3, if_neg k0])
      clear k3 k0
      go_enter Tryz.func92, Tryz.ntmps92
      go_wp2_with fail
      go_ret
      exact ⟨by rw [HE.out]; rfl, HB.out⟩

end Go.Proofs.YtdlebcijgdkfjaaGreatDoor

/-
  A region that draws its order, whose operations read and whose callees only make memory: one walk in the order of the text.
-/
namespace Go.Proofs.YtdlebcijgdkfjaaGreatDoor
open Go.RowKit

/-- worlds that have grown out of one -/
abbrev Gr (W0 : World) := {x : World // Below W0.heap.size W0 x}
theorem region_grown {P : Program} {id : Nat} {Q : Exit → Act → World → Prop} {a : Act} {w W0 : World} {l : List Oper} (hm : P.follows .mixedOrders = true) (hB : Region.lexB .any l.toArray = true) (hb : Below W0.heap.size W0 w)
    (h : wpQuiet P l.toArray (fun w' => ∃ u : Gr W0, w' = u.val) (fun a' => ∀ w', (∃ u : Gr W0, w' = u.val) → Q .normal a' w') l a) : (Code.region id l.toArray true).wp P Q a w :=
  wp_region_quiet (C := fun w' => ∃ u : Gr W0, w' = u.val) hm hB ⟨⟨_, below_drew hb⟩, rfl⟩ (by simpa using h)
theorem Calls.grown {P : Program} {f : FuncId} {args : Array Value} {W0 : World} {u : Gr W0} {v : Value} (h : Calls P f args u.val fun e w' => e = .returned v ∧ Below u.val.heap.size u.val w') : Calls P f args u.val fun e w'' => e = .returned v ∧ ∃ u' : Gr W0, w'' = u'.val :=
  h.mono fun _ w' ⟨he, hw⟩ => ⟨he, ⟨w', bstep u.2 hw⟩, rfl⟩
theorem Gr.cell {W0 : World} {a : Addr} {v : Value} (h : W0.cell? a = some v) (u : Gr W0) : u.val.cell? a = some v := cell_later u.2 h

end Go.Proofs.YtdlebcijgdkfjaaGreatDoor

/-
  Trees of api.Node in memory.
-/
namespace Go.Proofs.YtdlebcijgdkfjaaGreatDoor
open Go.RowKit

def cNd : Nd → List Value | .mk kind at_ name value a b c d KA kc kids => [.int .i64 kind, .int .i64 at_, .string name, .string value, .int .i64 a, .int .i64 b, .int .i64 c, .int .i64 d, .slice KA kids.length kc]
/-- lists of trees in memory -/
inductive TreesAt (w : World) (P : Nat → Prop) : Option Addr → List Nd → Prop
  | mk (A : Option Addr) (l : List Nd) (len : l.length ≤ 1353245080339) (row : Row w P 9 cNd A l) (kids : ∀ n, n ∈ l → TreesAt w P n.KA n.kids) : TreesAt w P A l
section
variable {w w' : World} {P P' : Nat → Prop} {A : Option Addr} {l : List Nd}
theorem TreesAt.len (h : TreesAt w P A l) : l.length ≤ 1353245080339 := by cases h; assumption
theorem TreesAt.row (h : TreesAt w P A l) : Row w P 9 cNd A l := by cases h; assumption
theorem TreesAt.each (h : TreesAt w P A l) : ∀ n ∈ l, TreesAt w P n.KA n.kids := by cases h; assumption
theorem TreesAt.stay (h : TreesAt w P A l) (hs : Stay P w w') : TreesAt w' P A l := by
  induction h with
  | mk A l len row _ ih => exact .mk A l len (row.stay hs) fun n hn => ih n hn
theorem TreesAt.more (h : TreesAt w P A l) (hp : ∀ b, P b → P' b) : TreesAt w P' A l := by
  induction h with
  | mk A l len row _ ih => exact .mk A l len (row.more hp) fun n hn => ih n hn
theorem TreesAt.grow (h : TreesAt w (Lo w.heap.size) A l) (hb : Below w.heap.size w w') : TreesAt w' (Lo w'.heap.size) A l := (h.stay (stay_below hb fun _ h => h)).more fun _ hb' => Nat.lt_of_lt_of_le hb' hb.size
theorem TreesAt.nil : TreesAt w P A [] := .mk A [] (by simp) Row.nil fun n hn => absurd hn (by simp)
end
theorem box9 {w : World} {N : Nat} {a b c d e f g h i : Value} {t : TypeId} (hN : w.heap[N]? = some (.cells #[a, b, c, d, e, f, g, h, i] t (0, 0))) : w.cell? ⟨N, 0, none⟩ = some a ∧ w.cell? ⟨N, 1, none⟩ = some b ∧ w.cell? ⟨N, 2, none⟩ = some c ∧ w.cell? ⟨N, 3, none⟩ = some d ∧ w.cell? ⟨N, 4, none⟩ = some e ∧ w.cell? ⟨N, 5, none⟩ = some f ∧ w.cell? ⟨N, 6, none⟩ = some g ∧ w.cell? ⟨N, 7, none⟩ = some h ∧ w.cell? ⟨N, 8, none⟩ = some i := by
  refine ⟨?_, ?_, ?_, ?_, ?_, ?_, ?_, ?_, ?_⟩ <;> (rw [cell_of_row w N _ _ t (0, 0) hN]; rfl)
/-- nine cells out of a row's fact -/
theorem nine {w : World} {b o : Nat} {v0 v1 v2 v3 v4 v5 v6 v7 v8 : Value} (h : ∀ j, j < 9 → w.cell? ⟨b, o + j, none⟩ = [v0, v1, v2, v3, v4, v5, v6, v7, v8][j]?) :
    w.cell? ⟨b, o, none⟩ = some v0 ∧ w.cell? ⟨b, o + 1, none⟩ = some v1 ∧ w.cell? ⟨b, o + 2, none⟩ = some v2 ∧ w.cell? ⟨b, o + 3, none⟩ = some v3 ∧ w.cell? ⟨b, o + 4, none⟩ = some v4 ∧ w.cell? ⟨b, o + 5, none⟩ = some v5 ∧ w.cell? ⟨b, o + 6, none⟩ = some v6 ∧ w.cell? ⟨b, o + 7, none⟩ = some v7 ∧ w.cell? ⟨b, o + 8, none⟩ = some v8 :=
  ⟨h 0 (by omega), h 1 (by omega), h 2 (by omega), h 3 (by omega), h 4 (by omega), h 5 (by omega), h 6 (by omega), h 7 (by omega), h 8 (by omega)⟩
theorem new_at {w W : World} {o : Obj} (h : w.alloc o = W) : W.heap[w.heap.size]? = some o := by rw [← h]; exact heap_alloc_new w o
/-- a value in the end, in memory that has only grown -/
def RetV (v : Value) (w : World) (e : Ending) (w' : World) : Prop := e = .returned v ∧ Below w.heap.size w w'

end Go.Proofs.YtdlebcijgdkfjaaGreatDoor

/-
  Lists of spans that the program reads; runs.Valid at the spans of a function.
-/
namespace Go.Proofs.YtdlebcijgdkfjaaGreatDoor
open Go.RowKit

/-- a list of spans in memory, at its place -/
structure SpL where
  A : Option Addr
  c : Nat
  l : List Spn
def celSp (s : SpL) : Value := .slice s.A s.l.length s.c
/-- the three cells of a span -/
def SpAt (w : World) (b o : Nat) (x : Spn) : Prop := w.cell? ⟨b, o, none⟩ = some (.int .i64 x.f) ∧ w.cell? ⟨b, o + 1, none⟩ = some (.int .i64 x.t) ∧ w.cell? ⟨b, o + 2, none⟩ = some (.string x.v)
theorem Row.sp_at {w : World} {P : Nat → Prop} {A : Option Addr} {l : List Spn} (h : Row w P 3 encSp A l) (hne : l ≠ []) : ∃ b off, A = some ⟨b, off, none⟩ ∧ P b ∧ ∀ i x, l[i]? = some x → SpAt w b (off + i * 3) x := by
  obtain ⟨b, off, e, hb, hc⟩ := h hne
  exact ⟨b, off, e, hb, fun i x hi => ⟨hc i x hi 0 (by omega), hc i x hi 1 (by omega), hc i x hi 2 (by omega)⟩⟩
theorem SpAt.stay {w w' : World} {b o : Nat} {x : Spn} (h : SpAt w b o x) (hb : w'.heap[b]? = w.heap[b]?) : SpAt w' b o x := by
  obtain ⟨h1, h2, h3⟩ := h
  have e : ∀ j, w'.cell? ⟨b, j, none⟩ = w.cell? ⟨b, j, none⟩ := fun j => by simp [World.cell?, hb]
  exact ⟨(e _).trans h1, (e _).trans h2, (e _).trans h3⟩
/-- an own list, read -/
theorem OwnSp.row {w : World} {base c : Nat} {A : Option Addr} {l : List Spn} (h : OwnSp w base A c l) : Row w (fun b => base ≤ b ∧ b < w.heap.size ∧ ob A = some b) 3 encSp A l := fun hne => by
  obtain ⟨g, rfl, h1, h2⟩ := h.place hne
  refine ⟨g, 0, rfl, ⟨h1, h2, rfl⟩, fun i x hi j hj => ?_⟩
  obtain ⟨c0, c1, c2⟩ := h.cell hi
  rw [Nat.zero_add]
  match j, hj with
  | 0, _ => exact c0
  | 1, _ => exact c1
  | 2, _ => exact c2

theorem sp_box {w : World} {N : Nat} {x : Spn} (h : w.heap[N]? = some (.cells #[.int .i64 x.f, .int .i64 x.t, .string x.v] 100 (0, 0))) : SpAt w N 0 x := by
  refine ⟨?_, ?_, ?_⟩ <;> (rw [cell_of_row w N _ _ _ (0, 0) h]; rfl)
def VaRel (n : Nat) (w : World) (i : Value) (wr : World) : Prop := ∃ j : Nat, j ≤ n ∧ i = .int .i64 (j : Int) ∧ Below w.heap.size w wr

set_option maxRecDepth 100000 in
set_option maxHeartbeats 4000000 in
theorem valid_sp (g : Int → ByteArray) (a z : Int) (A : Option Addr) (c : Nat) (l : List Spn) (w : World) (h : Row w (Lo w.heap.size) 3 encSp A l) (hs : Spans g a z l) (h0 : 0 ≤ a) (hz : z ≤ 1099511627776) (hl : l.length ≤ 1000000) :
    Calls Tryz.prog 155 #[.slice A l.length c] w (RetV (.bool true) w) := by
  obtain ⟨b, off, rfl, hb, hc⟩ := h.sp_at hs.ne
  have HS := hide hs
  have hc0 : ∃ x0, l[0]? = some x0 := ⟨l[0]'(List.length_pos_iff.2 hs.ne), List.getElem?_eq_getElem _⟩
  have hc1 : ∃ x1, l[l.length - 1]? = some x1 := ⟨l[l.length - 1]'(by have := List.length_pos_iff.2 hs.ne; omega), List.getElem?_eq_getElem _⟩
  have hlp := List.length_pos_iff.2 hs.ne
  obtain ⟨x0, hx0⟩ := hc0
  obtain ⟨x1, hx1⟩ := hc1
  obtain ⟨k0, k1, k2⟩ := hc 0 x0 hx0
  obtain ⟨m0, m1, m2⟩ := hc _ x1 hx1
  have e0 := hs.mem (List.mem_of_getElem? hx0)
  have e1 := hs.mem (List.mem_of_getElem? hx1)
  have d0 : decide (x0.f < 0) = false := decide_eq_false (by omega)
  have d1 : decide (1099511627776 < x1.t) = false := decide_eq_false (by omega)
  have hi : ((l.length : Nat) : Int) - 1 = ((l.length - 1 : Nat) : Int) := by omega
  have hlt : l.length - 1 < l.length := by omega
  have T0 : ((l.length : Int) == 0) = false := beq_eq_false_iff_ne.2 (by omega)
  have HC := hide hc
  have HB := hide hb
  simp only [Nat.zero_mul, Nat.add_zero] at k0 k1 k2
  clear hs hc hx0 hx1 e0 e1 h
  go_enter Tryz.func155, Tryz.ntmps155
  go_upto_region 4 with (fail)
  go_loopw [27] (fun i wr => VaRel l.length w i wr) (fun i _ => l.length - (intOf i).toNat)
  case atStart => exact ⟨0, Nat.zero_le _, rfl, Below.refl _ _⟩
  case round =>
    obtain ⟨j, hj, rfl, hbr⟩ := hrel
    by_cases hlt : j < l.length
    · have hx : l[j]? = some l[j] := List.getElem?_eq_getElem hlt
      have s1 := (HC.out j _ hx).stay (hbr.block _ HB.out)
      have hj1 := HS.out.mem (List.mem_of_getElem? hx)
      have hprev : ∀ i, j = i + 1 → ∃ y, SpAt wr b (off + i * 3) y ∧ l[j].f = y.t + 1 ∧ y.v ≠ l[j].v ∧ y.t ≤ 1099511627776 ∧ 0 ≤ y.t := fun i e => by
        have hy : l[i]? = some l[i] := List.getElem?_eq_getElem (by omega)
        obtain ⟨n1, n2⟩ := HS.out.next hy (by rw [← e]; exact hx)
        have hm := HS.out.mem (List.mem_of_getElem? hy)
        exact ⟨_, (HC.out i _ hy).stay (hbr.block _ HB.out), n1, n2, by omega, by omega⟩
      generalize l[j] = x at *
      obtain ⟨s2, s3, s4⟩ := s1
      have d2 : decide (x.t < x.f) = false := decide_eq_false (by omega)
      have HBR := hide hbr
      have HQ := hide (bstep hbr ((Below.refl wr.heap.size wr).alloc (Nat.le_refl _) (.cells #[.int .i64 x.f, .int .i64 x.t, .string x.v] 100)))
      have g1 := heap_alloc_new wr (.cells #[.int .i64 x.f, .int .i64 x.t, .string x.v] 100)
      have hold : ∀ b, b < wr.heap.size → (wr.alloc (.cells #[.int .i64 x.f, .int .i64 x.t, .string x.v] 100)).heap[b]? = wr.heap[b]? := fun b hb => Below.heap_alloc _ _ _ hb
      have hbw : b < wr.heap.size := Nat.lt_of_lt_of_le HB.out hbr.size
      have HW := hide (show wr.alloc (.cells #[.int .i64 x.f, .int .i64 x.t, .string x.v] 100) = wr.alloc (.cells #[.int .i64 x.f, .int .i64 x.t, .string x.v] 100) from rfl)
      obtain ⟨W1, hW1⟩ : ∃ W1, wr.alloc (.cells #[.int .i64 x.f, .int .i64 x.t, .string x.v] 100) = W1 := ⟨_, rfl⟩
      rw [hW1] at HQ g1 hold
      have HW1 := hide hW1
      clear hbr hW1 HW
      go_upto_region 6 with (fail)
      rw [HW1.out]
      clear HW1 s2 s3 s4
      obtain ⟨z0, z1, z2⟩ : SpAt W1 wr.heap.size 0 x := sp_box g1
      clear g1
      rcases Nat.eq_zero_or_pos j with rfl | hjp
      · clear hprev
        go_quiet (fail)
        go_wp2_with fail
        exact ⟨⟨1, by omega, rfl, below_drewN HQ.out _⟩, by simp [intOf]; omega⟩
      · obtain ⟨i, rfl⟩ : ∃ i, j = i + 1 := ⟨j - 1, by omega⟩
        obtain ⟨y, hy, n1, n2, n3, n4⟩ := hprev i rfl
        obtain ⟨y0, y1, y2⟩ := hy.stay (hold _ hbw)
        have hi1 : (((i + 1 : Nat) : Int)) - 1 = (i : Int) := by omega
        have T1 : decide (0 < ((i + 1 : Nat) : Int)) = true := decide_eq_true (by omega)
        have T2 : (x.f != y.t + 1) = false := by simp [n1]
        have T3 : (x.v.toList == y.v.toList) = false := beq_eq_false_iff_ne.2 (fun e => n2 (by rw [ByteArray.toList_eq, ByteArray.toList_eq] at e; exact (ByteArray.ext (Array.toList_inj.1 e)).symm))
        clear hprev n1 n2
        go_quiet (fail)
        go_wp2_with fail
        exact ⟨⟨i + 1 + 1, by omega, by go_num, below_drewN HQ.out _⟩, by simp [intOf]; omega⟩
    · have HBR := hide hbr
      go_wp2_with fail
      go_ret
      exact ⟨rfl, HBR.out⟩

end Go.Proofs.YtdlebcijgdkfjaaGreatDoor
