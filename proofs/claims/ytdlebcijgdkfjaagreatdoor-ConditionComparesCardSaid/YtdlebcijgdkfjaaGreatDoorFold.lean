/-
  condition.fold and mapped, at whatever function of a byte.
-/
import Derived.Test.YtdlebcijgdkfjaaGreatDoorCode
import Derived.Test.YtdlebcijgdkfjaaGreatDoorBut
namespace Go.Proofs.YtdlebcijgdkfjaaGreatDoor
open Go.RowKit

abbrev bv (c : UInt8) : Value := .int .u8 (c.toNat : Int)
/-- a row of bytes in memory -/
def BytesAt (w : World) (A : Option Addr) (l : List UInt8) : Prop := ∀ i c, l[i]? = some c → ∃ b off, A = some ⟨b, off, none⟩ ∧ w.cell? ⟨b, off + i, none⟩ = some (bv c)
def OwnBy (w : World) (base : Nat) (A : Option Addr) (c : Nat) (l : List UInt8) : Prop := w.ownsRow base 5 1 (.slice A l.length c) l.length (l.map bv)
theorem infoBy : (Tryz.prog.info? 5).map (fun i => (i.zero, i.size, i.bytes)) = some (some (.int .u8 0), 1, 1) := by kernel_rfl

/-- what a function of a byte does, called one after the other on the bytes of l: I says what it has in its own cells -/
def StepBy (ID : Nat) (caps : Array Value) (x : Option Nat) (l : List UInt8) (g : Nat → UInt8) (I : Nat → World → Prop) : Prop :=
  ∀ (k : Nat) (c : UInt8) (W : World), l[k]? = some c → I k W → Calls Tryz.prog ID (#[bv c] ++ caps) W fun e W' => e = .returned (bv (g k)) ∧ I (k + 1) W' ∧ But W.heap.size x W W'
def EntersF (ID : Nat) : Prop := ∀ (args : Array Value) (w : World), (callFunc ID args).run Tryz.prog w = .ok (.enter ID args) w
def KeepsI (base : Nat) (I : Nat → World → Prop) : Prop := ∀ (k : Nat) (W W' : World), Below base W W' → I k W → I k W'

theorem ownBy_row {w : World} {base : Nat} {v : Value} {l : List UInt8} (h : w.ownsRow base 5 1 v l.length (l.map bv)) : ∃ A c, v = .slice A l.length c ∧ OwnBy w base A c l := by
  rcases Joins.ownsRow_forms h with ⟨rfl, h0⟩ | ⟨g, cap, rfl⟩
  · exact ⟨none, 0, by rw [h0], by unfold OwnBy; rw [h0] at h ⊢; exact h⟩
  · exact ⟨_, cap, rfl, h⟩
theorem bv_one (l : List UInt8) : ∀ u ∈ l.map bv, u.oneCell' = true := by
  intro u hu
  obtain ⟨c, _, rfl⟩ := List.mem_map.1 hu
  rfl

def MapEnd (base : Nat) (x : Option Nat) (I : Nat → World → Prop) (k : Nat) (out : List UInt8) (w : World) (e : Ending) (w' : World) : Prop :=
  ∃ A c, e = .returned (.slice A out.length c) ∧ OwnBy w' base A c out ∧ I k w' ∧ But base x w w'

set_option maxRecDepth 100000 in
theorem mapped1_any (ID : Nat) (caps : Array Value) (x : Option Nat) (l : List UInt8) (g : Nat → UInt8) (I : Nat → World → Prop) (base : Nat) (hE : EntersF ID) (hs : StepBy ID caps x l g I) (hI : KeepsI base I) (hx : ∀ n, x = some n → n < base)
    (A : Option Addr) (cap : Nat) (out : List UInt8) (c : UInt8) (k b : Nat) (w : World) (hc : l[k]? = some c) (hb : base ≤ w.heap.size) (hf : w.cell? ⟨b, 0, none⟩ = some (.func (.func ID) #[] caps)) (ho : OwnBy w base A cap out) (hi : I k w) (hl : out.length ≤ 1000) :
    Calls Tryz.prog 125 #[.slice A out.length cap, bv c, .pointer (some ⟨b, 0, none⟩)] w (MapEnd base x I (k + 1) (out ++ [g k]) w) := by
  obtain ⟨i0, hi0, hz0, hz1, hz2⟩ := info_parts infoBy
  have HI := hide hI
  have HX := hide hx
  have HC := hide hc
  unfold EntersF at hE
  clear hI hx hc
  go_enter Tryz.func125, Tryz.ntmps125
  go_wp2_with fail
  refine (hs k c w HC.out hi).mono ?_
  rintro e w1 ⟨rfl, hi1, b1⟩
  have ho1 : OwnBy w1 base A cap out := own_block ho fun n hn => b1.block n (own_ob ho n hn).2 fun e => by have := HX.out n e.symm; have := (own_ob ho n hn).1; omega
  have HO1 := hide (World.ownsRow.alloc ho1 (.cells #[bv (g k)] 5))
  have HB1 := hide (heap_alloc_new w1 (.cells #[bv (g k)] 5))
  have hsz := b1.size
  clear ho1
  generalize hg : g k = y at *
  clear hg
  go_wp2_with (at_builtin; (refine append_src rfl _ _ 108 rfl base 5 i0 _ 1 1 Tryz.underlying108 hi0 hz0 hz1 hz2 rfl (by decide) (.slice A out.length cap) out.length (out.map bv) rfl HO1.out (some ⟨w1.heap.size, 0, none⟩) 1 1 [bv y] rfl rfl (src_block (t := 5) (fr := (0, 0)) HB1.out) (bv_one [y]) (by simp only [maxLen]; omega) (by omega) (by simp; omega) ?_); intro v' w3 hown3 hg3)
  obtain ⟨A3, c3, rfl, ho3⟩ := ownBy_row (l := out ++ [y]) (by rw [List.map_append, List.length_append]; exact hown3)
  have hbel : Below base w1 w3 := ((Below.refl _ w1).alloc (by omega) _).grown hg3 (by simp; omega) (fun n hn => (own_ob HO1.out n (by rw [ob_eq] at hn; exact hn)).1)
  go_ret
  exact ⟨A3, c3, rfl, ho3, HI.out _ _ _ hbel hi1, (b1.mono (by omega)).trans (But.of hbel)⟩

def upto (g : Nat → UInt8) (k : Nat) : List UInt8 := (List.range k).map g
theorem upto_len (g : Nat → UInt8) (k : Nat) : (upto g k).length = k := by simp [upto]
theorem upto_succ (g : Nat → UInt8) (k : Nat) : upto g (k + 1) = upto g k ++ [g k] := by simp [upto, List.range_succ]

def FoldRel (base : Nat) (x : Option Nat) (I : Nat → World → Prop) (g : Nat → UInt8) (w : World) (n : Nat) (out i : Value) (wr : World) : Prop :=
  ∃ (k : Nat) (A : Option Addr) (c : Nat), k ≤ n ∧ i = .int .i64 k ∧ out = .slice A k c ∧ OwnBy wr base A c (upto g k) ∧ I k wr ∧ But base x w wr

set_option maxRecDepth 100000 in
set_option maxHeartbeats 1000000 in
theorem foldb_any (ID : Nat) (caps : Array Value) (x : Option Nat) (l : List UInt8) (g : Nat → UInt8) (I : Nat → World → Prop) (base : Nat) (hE : EntersF ID) (hs : StepBy ID caps x l g I) (hI : KeepsI base I) (hx : ∀ n, x = some n → n < base)
    (bb off cb : Nat) (A : Option Addr) (cap b : Nat) (w : World) (hbb : bb < base) (hxb : x ≠ some bb) (hby : ∀ i c, l[i]? = some c → w.cell? ⟨bb, off + i, none⟩ = some (bv c)) (hb : base ≤ w.heap.size) (hlb : b < base) (hxf : x ≠ some b) (hf : w.cell? ⟨b, 0, none⟩ = some (.func (.func ID) #[] caps)) (ho : OwnBy w base A cap []) (hi : I 0 w) (hl : l.length ≤ 1000) :
    Calls Tryz.prog 124 #[.slice (some ⟨bb, off, none⟩) l.length cb, .slice A 0 cap, .func (.func 125) #[] #[.pointer (some ⟨b, 0, none⟩)]] w (MapEnd base x I l.length (upto g l.length) w) := by
  have HBY := hide hby
  have HX := hide hx
  have HI := hide hI
  have HXB := hide hxb
  have HXF := hide hxf
  clear hby hx hI hxb hxf
  go_enter Tryz.func124, Tryz.ntmps124
  go_wp2_with fail
  go_loopw [1, 11] (fun out i wr => FoldRel base x I g w l.length out i wr) (fun _ i _ => l.length - (intOf i).toNat)
  case atStart => exact ⟨0, A, cap, Nat.zero_le _, rfl, rfl, ho, hi, But.refl _ _ _⟩
  case round =>
    obtain ⟨k, A1, c1, hk, rfl, rfl, ho1, hi1, hb1⟩ := hrel
    by_cases hlt : k < l.length
    · have q1 : wr.cell? ⟨bb, off + k, none⟩ = some (bv l[k]) := (World.cell?_of_block (a := ⟨bb, off + k, none⟩) (hb1.block bb hbb (fun e => HXB.out e.symm))).trans (HBY.out k _ (List.getElem?_eq_getElem hlt))
      have q2 : wr.cell? ⟨b, 0, none⟩ = some (.func (.func ID) #[] caps) := (World.cell?_of_block (a := ⟨b, 0, none⟩) (hb1.block b hlb (fun e => HXF.out e.symm))).trans hf
      have HC := hide (List.getElem?_eq_getElem hlt)
      have HUS := hide (upto_succ g k)
      have hbk := hb1.size
      have hul : (upto g k).length = k := upto_len g k
      have HUL := hide hul
      clear hul
      generalize l[k] = c at *
      go_wp2_with fail
      have h := mapped1_any ID caps x l g I base hE hs HI.out HX.out A1 c1 (upto g k) c k b wr HC.out (by omega) q2 ho1 hi1 (by rw [HUL.out]; omega)
      rw [HUL.out] at h
      refine h.mono ?_
      rintro e w1 ⟨A2, c2, rfl, ho2, hi2, hb2⟩
      have HL2 : (upto g k ++ [g k]).length = k + 1 := by rw [List.length_append, HUL.out]; rfl
      rw [HL2]
      go_wp2_with fail
      go_roundw
      case rel => exact ⟨k + 1, A2, c2, by omega, by go_num, rfl, by rw [HUS.out]; exact ho2, hi2, hb1.trans hb2⟩
      case measure => simp [intOf]; omega
    · have hke : k = l.length := by omega
      subst hke
      have hul : (upto g l.length).length = l.length := upto_len g _
      go_wp2_with fail
      go_ret
      exact ⟨A1, c1, by rw [upto_len]; rfl, ho1, hi1, hb1⟩

end Go.Proofs.YtdlebcijgdkfjaaGreatDoor
