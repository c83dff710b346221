/-
  Several texts in one: SpV. Each says at its head what it holds.
-/
import Derived.Test.YtaaplalfggofiaaGreatDoorEC12
import Derived.Test.YtaaplalfggofiaaGreatDoorEC14
import Derived.Deep.DeepCutAuto
import Derived.Deep.QuietTactic
import Derived.BigQuiet
import Derived.IntWalk

/-
  Lists of spans that the program reads; runs.Valid at the spans of a function.
-/
namespace Go.Proofs.YtaaplalfggofiaaGreatDoor
open Go.RowKit

/-- a list of spans in memory, at its place -/
structure SpL where
  A : Option Addr
  c : Nat
  l : List Spn
def celSp (s : SpL) : Value := .slice s.A s.l.length s.c
/-- the three cells of a span -/
def SpAt (w : World) (b o : Nat) (x : Spn) : Prop := w.cell? ⟨b, o, none⟩ = some (.int .i64 x.f) ∧ w.cell? ⟨b, o + 1, none⟩ = some (.int .i64 x.t) ∧ w.cell? ⟨b, o + 2, none⟩ = some (.string x.v)
theorem Row.sp_at {w : World} {P : Nat → Prop} {A : Option Addr} {l : List Spn} (h : Row w P 3 encSp A l) (hne : l ≠ []) : ∃ b off, A = some ⟨b, off, none⟩ ∧ P b ∧ ∀ i x, l[i]? = some x → SpAt w b (off + i * 3) x := by
  obtain ⟨b, off, e, hb, hc⟩ := h hne
  exact ⟨b, off, e, hb, fun i x hi => ⟨hc i x hi 0 (by omega), hc i x hi 1 (by omega), hc i x hi 2 (by omega)⟩⟩
theorem SpAt.stay {w w' : World} {b o : Nat} {x : Spn} (h : SpAt w b o x) (hb : w'.heap[b]? = w.heap[b]?) : SpAt w' b o x := by
  obtain ⟨h1, h2, h3⟩ := h
  have e : ∀ j, w'.cell? ⟨b, j, none⟩ = w.cell? ⟨b, j, none⟩ := fun j => by simp [World.cell?, hb]
  exact ⟨(e _).trans h1, (e _).trans h2, (e _).trans h3⟩
/-- an own list, read -/
theorem OwnSp.row {w : World} {base c : Nat} {A : Option Addr} {l : List Spn} (h : OwnSp w base A c l) : Row w (fun b => base ≤ b ∧ b < w.heap.size ∧ ob A = some b) 3 encSp A l := fun hne => by
  obtain ⟨g, rfl, h1, h2⟩ := h.place hne
  refine ⟨g, 0, rfl, ⟨h1, h2, rfl⟩, fun i x hi j hj => ?_⟩
  obtain ⟨c0, c1, c2⟩ := h.cell hi
  rw [Nat.zero_add]
  match j, hj with
  | 0, _ => exact c0
  | 1, _ => exact c1
  | 2, _ => exact c2

theorem sp_box {w : World} {N : Nat} {x : Spn} (h : w.heap[N]? = some (.cells #[.int .i64 x.f, .int .i64 x.t, .string x.v] 70 (0, 0))) : SpAt w N 0 x := by
  refine ⟨?_, ?_, ?_⟩ <;> (rw [cell_of_row w N _ _ _ (0, 0) h]; rfl)
def VaRel (n : Nat) (w : World) (i : Value) (wr : World) : Prop := ∃ j : Nat, j ≤ n ∧ i = .int .i64 (j : Int) ∧ Below w.heap.size w wr

set_option maxRecDepth 100000 in
set_option maxHeartbeats 4000000 in
theorem valid_sp (g : Int → ByteArray) (a z : Int) (A : Option Addr) (c : Nat) (l : List Spn) (w : World) (h : Row w (Lo w.heap.size) 3 encSp A l) (hs : Spans g a z l) (h0 : 0 ≤ a) (hz : z ≤ 1099511627776) (hl : l.length ≤ 1000000) :
    Calls Tryz.prog 195 #[.slice A l.length c] w (RetV (.bool true) w) := by
  obtain ⟨b, off, rfl, hb, hc⟩ := h.sp_at hs.ne
  have HS := hide hs
  have hc0 : ∃ x0, l[0]? = some x0 := ⟨l[0]'(List.length_pos_iff.2 hs.ne), List.getElem?_eq_getElem _⟩
  have hc1 : ∃ x1, l[l.length - 1]? = some x1 := ⟨l[l.length - 1]'(by have := List.length_pos_iff.2 hs.ne; omega), List.getElem?_eq_getElem _⟩
  have hlp := List.length_pos_iff.2 hs.ne
  obtain ⟨x0, hx0⟩ := hc0
  obtain ⟨x1, hx1⟩ := hc1
  obtain ⟨k0, k1, k2⟩ := hc 0 x0 hx0
  obtain ⟨m0, m1, m2⟩ := hc _ x1 hx1
  have e0 := hs.mem (List.mem_of_getElem? hx0)
  have e1 := hs.mem (List.mem_of_getElem? hx1)
  have d0 : decide (x0.f < 0) = false := decide_eq_false (by omega)
  have d1 : decide (1099511627776 < x1.t) = false := decide_eq_false (by omega)
  have hi : ((l.length : Nat) : Int) - 1 = ((l.length - 1 : Nat) : Int) := by omega
  have hlt : l.length - 1 < l.length := by omega
  have T0 : ((l.length : Int) == 0) = false := beq_eq_false_iff_ne.2 (by omega)
  have HC := hide hc
  have HB := hide hb
  simp only [Nat.zero_mul, Nat.add_zero] at k0 k1 k2
  clear hs hc hx0 hx1 e0 e1 h
  go_enter Tryz.func195, Tryz.ntmps195
  go_upto_region 4 with (fail)
  go_loopw [27] (fun i wr => VaRel l.length w i wr) (fun i _ => l.length - (intOf i).toNat)
  case atStart => exact ⟨0, Nat.zero_le _, rfl, Below.refl _ _⟩
  case round =>
    obtain ⟨j, hj, rfl, hbr⟩ := hrel
    by_cases hlt : j < l.length
    · have hx : l[j]? = some l[j] := List.getElem?_eq_getElem hlt
      have s1 := (HC.out j _ hx).stay (hbr.block _ HB.out)
      have hj1 := HS.out.mem (List.mem_of_getElem? hx)
      have hprev : ∀ i, j = i + 1 → ∃ y, SpAt wr b (off + i * 3) y ∧ l[j].f = y.t + 1 ∧ y.v ≠ l[j].v ∧ y.t ≤ 1099511627776 ∧ 0 ≤ y.t := fun i e => by
        have hy : l[i]? = some l[i] := List.getElem?_eq_getElem (by omega)
        obtain ⟨n1, n2⟩ := HS.out.next hy (by rw [← e]; exact hx)
        have hm := HS.out.mem (List.mem_of_getElem? hy)
        exact ⟨_, (HC.out i _ hy).stay (hbr.block _ HB.out), n1, n2, by omega, by omega⟩
      generalize l[j] = x at *
      obtain ⟨s2, s3, s4⟩ := s1
      have d2 : decide (x.t < x.f) = false := decide_eq_false (by omega)
      have HBR := hide hbr
      have HQ := hide (bstep hbr ((Below.refl wr.heap.size wr).alloc (Nat.le_refl _) (.cells #[.int .i64 x.f, .int .i64 x.t, .string x.v] 70)))
      have g1 := heap_alloc_new wr (.cells #[.int .i64 x.f, .int .i64 x.t, .string x.v] 70)
      have hold : ∀ b, b < wr.heap.size → (wr.alloc (.cells #[.int .i64 x.f, .int .i64 x.t, .string x.v] 70)).heap[b]? = wr.heap[b]? := fun b hb => Below.heap_alloc _ _ _ hb
      have hbw : b < wr.heap.size := Nat.lt_of_lt_of_le HB.out hbr.size
      have HW := hide (show wr.alloc (.cells #[.int .i64 x.f, .int .i64 x.t, .string x.v] 70) = wr.alloc (.cells #[.int .i64 x.f, .int .i64 x.t, .string x.v] 70) from rfl)
      obtain ⟨W1, hW1⟩ : ∃ W1, wr.alloc (.cells #[.int .i64 x.f, .int .i64 x.t, .string x.v] 70) = W1 := ⟨_, rfl⟩
      rw [hW1] at HQ g1 hold
      have HW1 := hide hW1
      clear hbr hW1 HW
      go_upto_region 6 with (fail)
      rw [HW1.out]
      clear HW1 s2 s3 s4
      obtain ⟨z0, z1, z2⟩ : SpAt W1 wr.heap.size 0 x := sp_box g1
      clear g1
      rcases Nat.eq_zero_or_pos j with rfl | hjp
      · clear hprev
        go_quiet (fail)
        go_wp2_with fail
        exact ⟨⟨1, by omega, rfl, below_drewN HQ.out _⟩, by simp [intOf]; omega⟩
      · obtain ⟨i, rfl⟩ : ∃ i, j = i + 1 := ⟨j - 1, by omega⟩
        obtain ⟨y, hy, n1, n2, n3, n4⟩ := hprev i rfl
        obtain ⟨y0, y1, y2⟩ := hy.stay (hold _ hbw)
        have hi1 : (((i + 1 : Nat) : Int)) - 1 = (i : Int) := by omega
        have T1 : decide (0 < ((i + 1 : Nat) : Int)) = true := decide_eq_true (by omega)
        have T2 : (x.f != y.t + 1) = false := by simp [n1]
        have T3 : (x.v.toList == y.v.toList) = false := beq_eq_false_iff_ne.2 (fun e => n2 (by rw [ByteArray.toList_eq, ByteArray.toList_eq] at e; exact (ByteArray.ext (Array.toList_inj.1 e)).symm))
        clear hprev n1 n2
        go_quiet (fail)
        go_wp2_with fail
        exact ⟨⟨i + 1 + 1, by omega, by go_num, below_drewN HQ.out _⟩, by simp [intOf]; omega⟩
    · have HBR := hide hbr
      go_wp2_with fail
      go_ret
      exact ⟨rfl, HBR.out⟩

end Go.Proofs.YtaaplalfggofiaaGreatDoor
