/-
  Several texts in one: Code, But, Fold, Mapped, Trim. Each says at its head what it holds.
-/
import Derived.Test.YtaaplalfggofiaaGreatDoorEC3
import Derived.Test.YtaaplalfggofiaaGreatDoorEC2
import Derived.Lib.ConvBytes
import Derived.Lib.SlBytesRow
import Derived.Laws.BytesArg
import Derived.Test.YtaaplalfggofiaaGreatDoorShelf
import Derived.Shelf.Strings.SlTrimAscii

/-
  condition.code, inverted, tableOf; byte slices in memory.
-/
namespace Go.Proofs.YtaaplalfggofiaaGreatDoor
open Go.RowKit

theorem byte_lt (c : UInt8) : c.toNat < 256 := c.toNat_lt
theorem code_any (c : UInt8) (w : World) : Calls Tryz.prog 125 #[.int .u8 (c.toNat : Int)] w fun e w' => e = .returned (.int .i64 (codeC c : Int)) ∧ w = w' := by
  have hc := byte_lt c
  by_cases h0 : c = 48
  · subst h0
    go_enter Tryz.func125, Tryz.ntmps125
    go_wp2_with fail
    go_ret
    exact ⟨rfl, rfl⟩
  · by_cases h1 : c = 49
    · subst h1
      go_enter Tryz.func125, Tryz.ntmps125
      go_wp2_with fail
      go_ret
      exact ⟨rfl, rfl⟩
    · have n0 : c.toNat ≠ 48 := fun e => h0 (UInt8.toNat_inj.1 e)
      have n1 : c.toNat ≠ 49 := fun e => h1 (UInt8.toNat_inj.1 e)
      have t0 : ((c.toNat : Int) == 48) = false := beq_eq_false_iff_ne.2 (by omega)
      have t1 : ((c.toNat : Int) == 49) = false := beq_eq_false_iff_ne.2 (by omega)
      have hk : codeC c = 2 := by unfold codeC; simp [h0, h1]
      have HK := hide hk
      clear hk h0 h1
      go_enter Tryz.func125, Tryz.ntmps125
      go_wp2_with fail
      go_ret
      exact ⟨by rw [HK.out]; rfl, rfl⟩

theorem codeC_le (c : UInt8) : codeC c ≤ 2 := by unfold codeC; (split; omega); (split <;> omega)
theorem inv_code (c : UInt8) : invC c = ([49, 48, 120] : List UInt8).getD (codeC c) 0 := by unfold invC codeC; (split; rfl); (split <;> rfl)
theorem zx_code (c : UInt8) : zxC c = ([48, 49, 120] : List UInt8).getD (codeC c) 0 := by unfold zxC codeC; (split; rfl); (split <;> rfl)

theorem inverted_any (c : UInt8) (w : World) : Calls Tryz.prog 122 #[.int .u8 (c.toNat : Int)] w fun e w' => e = .returned (.int .u8 ((invC c).toNat : Int)) ∧ w = w' := by
  have hk := inv_code c
  have hle := codeC_le c
  have hx : codeC c = 0 ∨ codeC c = 1 ∨ codeC c = 2 := by omega
  have HX := hide hx
  have HK := hide hk
  clear hx hk
  go_enter Tryz.func122, Tryz.ntmps122
  go_wp2_with fail
  refine (code_any c _).mono ?_
  rintro e w1 ⟨rfl, rfl⟩
  have hx := HX.out
  generalize codeC c = n at *
  clear HX
  rcases hx with rfl | rfl | rfl
  all_goals
    go_wp2_with fail
    go_ret
    exact ⟨by rw [HK.out]; rfl, rfl⟩

/-- the table of an operator, written out -/
def tabOf (k : Int) : List UInt8 := if k = 9 ∨ k = 14 then [48, 48, 48, 48, 49, 120, 48, 120, 120] else if k = 10 ∨ k = 15 then [48, 49, 120, 49, 49, 49, 120, 49, 120] else if k = 11 ∨ k = 16 then [48, 49, 120, 49, 48, 120, 120, 120, 120] else [0, 0, 0, 0, 0, 0, 0, 0, 0]
def tabV (l : List UInt8) : Array Value := (l.map fun c => Value.int .u8 (c.toNat : Int)).toArray
def isTab (k : Int) : Bool := decide ((9 ≤ k ∧ k ≤ 11) ∨ (14 ≤ k ∧ k ≤ 16))
theorem op_tab (k : Int) (hk : k = 9 ∨ k = 10 ∨ k = 11) (a b : UInt8) : opC k a b = (tabOf k).getD (codeC a * 3 + codeC b) 0 ∧ opC k a b = (tabOf (k + 5)).getD (codeC a * 3 + codeC b) 0 := by
  unfold opC tabOf andC orC xorC codeC knC
  rcases hk with rfl | rfl | rfl <;> by_cases a0 : a = 48 <;> by_cases a1 : a = 49 <;> by_cases b0 : b = 48 <;> by_cases b1 : b = 49 <;> simp_all
theorem tabOf_len (k : Int) : (tabOf k).length = 9 := by unfold tabOf; (split; rfl); (split; rfl); (split <;> rfl)
set_option maxRecDepth 100000 in
set_option maxHeartbeats 4000000 in
theorem tableOf_any (k : Int) (w : World) : Calls Tryz.prog 118 #[.int .i64 k] w fun e w' => e = .returned (.tuple #[.agg (tabV (tabOf k)), .bool (isTab k)]) ∧ Below w.heap.size w w' := by
  by_cases h : k = 9 ∨ k = 10 ∨ k = 11 ∨ k = 14 ∨ k = 15 ∨ k = 16
  · rcases h with rfl | rfl | rfl | rfl | rfl | rfl
    all_goals
      go_enter Tryz.func118, Tryz.ntmps118
      go_wp2_with fail
    · exact bodyPost_ret (v := .tuple #[.agg (tabV (tabOf 9)), .bool (isTab 9)]) (by simp [results, Tryz.results118, go_sem, tabV, tabOf, isTab]) rfl ⟨rfl, (Below.refl _ _).alloc (Nat.le_refl _) _⟩
    · exact bodyPost_ret (v := .tuple #[.agg (tabV (tabOf 10)), .bool (isTab 10)]) (by simp [results, Tryz.results118, go_sem, tabV, tabOf, isTab]) rfl ⟨rfl, (Below.refl _ _).alloc (Nat.le_refl _) _⟩
    · exact bodyPost_ret (v := .tuple #[.agg (tabV (tabOf 11)), .bool (isTab 11)]) (by simp [results, Tryz.results118, go_sem, tabV, tabOf, isTab]) rfl ⟨rfl, (Below.refl _ _).alloc (Nat.le_refl _) _⟩
    · exact bodyPost_ret (v := .tuple #[.agg (tabV (tabOf 14)), .bool (isTab 14)]) (by simp [results, Tryz.results118, go_sem, tabV, tabOf, isTab]) rfl ⟨rfl, (Below.refl _ _).alloc (Nat.le_refl _) _⟩
    · exact bodyPost_ret (v := .tuple #[.agg (tabV (tabOf 15)), .bool (isTab 15)]) (by simp [results, Tryz.results118, go_sem, tabV, tabOf, isTab]) rfl ⟨rfl, (Below.refl _ _).alloc (Nat.le_refl _) _⟩
    · exact bodyPost_ret (v := .tuple #[.agg (tabV (tabOf 16)), .bool (isTab 16)]) (by simp [results, Tryz.results118, go_sem, tabV, tabOf, isTab]) rfl ⟨rfl, (Below.refl _ _).alloc (Nat.le_refl _) _⟩
  · have e9 : (k == 9) = false := beq_eq_false_iff_ne.2 (by omega)
    have e10 : (k == 10) = false := beq_eq_false_iff_ne.2 (by omega)
    have e11 : (k == 11) = false := beq_eq_false_iff_ne.2 (by omega)
    have e14 : (k == 14) = false := beq_eq_false_iff_ne.2 (by omega)
    have e15 : (k == 15) = false := beq_eq_false_iff_ne.2 (by omega)
    have e16 : (k == 16) = false := beq_eq_false_iff_ne.2 (by omega)
    have h1 : tabOf k = [0, 0, 0, 0, 0, 0, 0, 0, 0] := by unfold tabOf; rw [if_neg (by omega), if_neg (by omega), if_neg (by omega)]
    have h2 : isTab k = false := by unfold isTab; exact decide_eq_false (by omega)
    rw [h1, h2]
    clear h h1 h2
    go_enter Tryz.func118, Tryz.ntmps118
    go_wp2_with fail
    exact bodyPost_ret (v := .tuple #[.agg (tabV [0, 0, 0, 0, 0, 0, 0, 0, 0]), .bool false]) (by simp [results, Tryz.results118, go_sem, tabV]) rfl ⟨rfl, (Below.refl _ _).alloc (Nat.le_refl _) _⟩

end Go.Proofs.YtaaplalfggofiaaGreatDoor

/-
  Memory that has only grown, but for one block.
-/
namespace Go.Proofs.YtaaplalfggofiaaGreatDoor
open Go.RowKit

/-- as Below, but for one block -/
structure But (n : Nat) (x : Option Nat) (w w' : World) : Prop where
  os : w'.os = w.os
  tape : w'.tape = w.tape
  output : w'.output = w.output
  size : w.heap.size ≤ w'.heap.size
  block : ∀ b, b < n → some b ≠ x → w'.heap[b]? = w.heap[b]?
theorem But.refl (n : Nat) (x : Option Nat) (w : World) : But n x w w := ⟨rfl, rfl, rfl, Nat.le_refl _, fun _ _ _ => rfl⟩
theorem But.trans {n : Nat} {x : Option Nat} {a b c : World} (h : But n x a b) (k : But n x b c) : But n x a c := ⟨k.os.trans h.os, k.tape.trans h.tape, k.output.trans h.output, Nat.le_trans h.size k.size, fun i hi hx => (k.block i hi hx).trans (h.block i hi hx)⟩
theorem But.mono {n m : Nat} {x : Option Nat} {a b : World} (h : But n x a b) (hm : m ≤ n) : But m x a b := ⟨h.os, h.tape, h.output, h.size, fun i hi hx => h.block i (by omega) hx⟩
theorem But.of {n : Nat} {x : Option Nat} {a b : World} (h : Below n a b) : But n x a b := ⟨h.os, h.tape, h.output, h.size, fun i hi _ => h.block i hi⟩
theorem But.below {n m : Nat} {a b : World} {x : Option Nat} (h : But n x a b) (hm : m ≤ n) (hx : ∀ k, x = some k → m ≤ k) : Below m a b := ⟨h.os, h.tape, h.output, h.size, fun i hi => h.block i (by omega) fun e => by have := hx i e.symm; omega⟩

end Go.Proofs.YtaaplalfggofiaaGreatDoor

/-
  condition.fold and mapped, at whatever function of a byte.
-/
namespace Go.Proofs.YtaaplalfggofiaaGreatDoor
open Go.RowKit

abbrev bv (c : UInt8) : Value := .int .u8 (c.toNat : Int)
def OwnBy (w : World) (base : Nat) (A : Option Addr) (c : Nat) (l : List UInt8) : Prop := w.ownsRow base 5 1 (.slice A l.length c) l.length (l.map bv)
theorem infoBy : (Tryz.prog.info? 5).map (fun i => (i.zero, i.size, i.bytes)) = some (some (.int .u8 0), 1, 1) := by kernel_rfl

/-- what a function of a byte does, called one after the other on the bytes of l: I says what it has in its own cells -/
def StepBy (ID : Nat) (caps : Array Value) (x : Option Nat) (l : List UInt8) (g : Nat → UInt8) (I : Nat → World → Prop) : Prop :=
  ∀ (k : Nat) (c : UInt8) (W : World), l[k]? = some c → I k W → Calls Tryz.prog ID (#[bv c] ++ caps) W fun e W' => e = .returned (bv (g k)) ∧ I (k + 1) W' ∧ But W.heap.size x W W'
def EntersF (ID : Nat) : Prop := ∀ (args : Array Value) (w : World), (callFunc ID args).run Tryz.prog w = .ok (.enter ID args) w
def KeepsI (base : Nat) (I : Nat → World → Prop) : Prop := ∀ (k : Nat) (W W' : World), Below base W W' → I k W → I k W'

theorem ownBy_row {w : World} {base : Nat} {v : Value} {l : List UInt8} (h : w.ownsRow base 5 1 v l.length (l.map bv)) : ∃ A c, v = .slice A l.length c ∧ OwnBy w base A c l := by
  rcases Joins.ownsRow_forms h with ⟨rfl, h0⟩ | ⟨g, cap, rfl⟩
  · exact ⟨none, 0, by rw [h0], by unfold OwnBy; rw [h0] at h ⊢; exact h⟩
  · exact ⟨_, cap, rfl, h⟩
theorem bv_one (l : List UInt8) : ∀ u ∈ l.map bv, u.oneCell' = true := by
  intro u hu
  obtain ⟨c, _, rfl⟩ := List.mem_map.1 hu
  rfl

def MapEnd (base : Nat) (x : Option Nat) (I : Nat → World → Prop) (k : Nat) (out : List UInt8) (w : World) (e : Ending) (w' : World) : Prop :=
  ∃ A c, e = .returned (.slice A out.length c) ∧ OwnBy w' base A c out ∧ I k w' ∧ But base x w w'

set_option maxRecDepth 100000 in
theorem mapped1_any (ID : Nat) (caps : Array Value) (x : Option Nat) (l : List UInt8) (g : Nat → UInt8) (I : Nat → World → Prop) (base : Nat) (hE : EntersF ID) (hs : StepBy ID caps x l g I) (hI : KeepsI base I) (hx : ∀ n, x = some n → n < base)
    (A : Option Addr) (cap : Nat) (out : List UInt8) (c : UInt8) (k b : Nat) (w : World) (hc : l[k]? = some c) (hb : base ≤ w.heap.size) (hf : w.cell? ⟨b, 0, none⟩ = some (.func (.func ID) #[] caps)) (ho : OwnBy w base A cap out) (hi : I k w) (hl : out.length ≤ 1000) :
    Calls Tryz.prog 187 #[.slice A out.length cap, bv c, .pointer (some ⟨b, 0, none⟩)] w (MapEnd base x I (k + 1) (out ++ [g k]) w) := by
  obtain ⟨i0, hi0, hz0, hz1, hz2⟩ := info_parts infoBy
  have HI := hide hI
  have HX := hide hx
  have HC := hide hc
  unfold EntersF at hE
  clear hI hx hc
  go_enter Tryz.func187, Tryz.ntmps187
  go_wp2_with fail
  refine (hs k c w HC.out hi).mono ?_
  rintro e w1 ⟨rfl, hi1, b1⟩
  have ho1 : OwnBy w1 base A cap out := own_block ho fun n hn => b1.block n (own_ob ho n hn).2 fun e => by have := HX.out n e.symm; have := (own_ob ho n hn).1; omega
  have HO1 := hide (World.ownsRow.alloc ho1 (.cells #[bv (g k)] 5))
  have HB1 := hide (heap_alloc_new w1 (.cells #[bv (g k)] 5))
  have hsz := b1.size
  clear ho1
  generalize hg : g k = y at *
  clear hg
  go_wp2_with (at_builtin; (refine append_src rfl _ _ 186 rfl base 5 i0 _ 1 1 Tryz.underlying186 hi0 hz0 hz1 hz2 rfl (by decide) (.slice A out.length cap) out.length (out.map bv) rfl HO1.out (some ⟨w1.heap.size, 0, none⟩) 1 1 [bv y] rfl rfl (src_block (t := 5) (fr := (0, 0)) HB1.out) (bv_one [y]) (by simp only [maxLen]; omega) (by omega) (by simp; omega) ?_); intro v' w3 hown3 hg3)
  obtain ⟨A3, c3, rfl, ho3⟩ := ownBy_row (l := out ++ [y]) (by rw [List.map_append, List.length_append]; exact hown3)
  have hbel : Below base w1 w3 := ((Below.refl _ w1).alloc (by omega) _).grown hg3 (by simp; omega) (fun n hn => (own_ob HO1.out n (by rw [ob_eq] at hn; exact hn)).1)
  go_ret
  exact ⟨A3, c3, rfl, ho3, HI.out _ _ _ hbel hi1, (b1.mono (by omega)).trans (But.of hbel)⟩

def upto (g : Nat → UInt8) (k : Nat) : List UInt8 := (List.range k).map g
theorem upto_len (g : Nat → UInt8) (k : Nat) : (upto g k).length = k := by simp [upto]
theorem upto_succ (g : Nat → UInt8) (k : Nat) : upto g (k + 1) = upto g k ++ [g k] := by simp [upto, List.range_succ]

def FoldRel (base : Nat) (x : Option Nat) (I : Nat → World → Prop) (g : Nat → UInt8) (w : World) (n : Nat) (out i : Value) (wr : World) : Prop :=
  ∃ (k : Nat) (A : Option Addr) (c : Nat), k ≤ n ∧ i = .int .i64 k ∧ out = .slice A k c ∧ OwnBy wr base A c (upto g k) ∧ I k wr ∧ But base x w wr

set_option maxRecDepth 100000 in
set_option maxHeartbeats 1000000 in
theorem foldb_any (ID : Nat) (caps : Array Value) (x : Option Nat) (l : List UInt8) (g : Nat → UInt8) (I : Nat → World → Prop) (base : Nat) (hE : EntersF ID) (hs : StepBy ID caps x l g I) (hI : KeepsI base I) (hx : ∀ n, x = some n → n < base)
    (bb off cb : Nat) (A : Option Addr) (cap b : Nat) (w : World) (hbb : bb < base) (hxb : x ≠ some bb) (hby : ∀ i c, l[i]? = some c → w.cell? ⟨bb, off + i, none⟩ = some (bv c)) (hb : base ≤ w.heap.size) (hlb : b < base) (hxf : x ≠ some b) (hf : w.cell? ⟨b, 0, none⟩ = some (.func (.func ID) #[] caps)) (ho : OwnBy w base A cap []) (hi : I 0 w) (hl : l.length ≤ 1000) :
    Calls Tryz.prog 186 #[.slice (some ⟨bb, off, none⟩) l.length cb, .slice A 0 cap, .func (.func 187) #[] #[.pointer (some ⟨b, 0, none⟩)]] w (MapEnd base x I l.length (upto g l.length) w) := by
  have HBY := hide hby
  have HX := hide hx
  have HI := hide hI
  have HXB := hide hxb
  have HXF := hide hxf
  clear hby hx hI hxb hxf
  go_enter Tryz.func186, Tryz.ntmps186
  go_wp2_with fail
  go_loopw [1, 11] (fun out i wr => FoldRel base x I g w l.length out i wr) (fun _ i _ => l.length - (intOf i).toNat)
  case atStart => exact ⟨0, A, cap, Nat.zero_le _, rfl, rfl, ho, hi, But.refl _ _ _⟩
  case round =>
    obtain ⟨k, A1, c1, hk, rfl, rfl, ho1, hi1, hb1⟩ := hrel
    by_cases hlt : k < l.length
    · have q1 : wr.cell? ⟨bb, off + k, none⟩ = some (bv l[k]) := (World.cell?_of_block (a := ⟨bb, off + k, none⟩) (hb1.block bb hbb (fun e => HXB.out e.symm))).trans (HBY.out k _ (List.getElem?_eq_getElem hlt))
      have q2 : wr.cell? ⟨b, 0, none⟩ = some (.func (.func ID) #[] caps) := (World.cell?_of_block (a := ⟨b, 0, none⟩) (hb1.block b hlb (fun e => HXF.out e.symm))).trans hf
      have HC := hide (List.getElem?_eq_getElem hlt)
      have HUS := hide (upto_succ g k)
      have hbk := hb1.size
      have hul : (upto g k).length = k := upto_len g k
      have HUL := hide hul
      clear hul
      generalize l[k] = c at *
      go_wp2_with fail
      have h := mapped1_any ID caps x l g I base hE hs HI.out HX.out A1 c1 (upto g k) c k b wr HC.out (by omega) q2 ho1 hi1 (by rw [HUL.out]; omega)
      rw [HUL.out] at h
      refine h.mono ?_
      rintro e w1 ⟨A2, c2, rfl, ho2, hi2, hb2⟩
      have HL2 : (upto g k ++ [g k]).length = k + 1 := by rw [List.length_append, HUL.out]; rfl
      rw [HL2]
      go_wp2_with fail
      go_roundw
      case rel => exact ⟨k + 1, A2, c2, by omega, by go_num, rfl, by rw [HUS.out]; exact ho2, hi2, hb1.trans hb2⟩
      case measure => simp [intOf]; omega
    · have hke : k = l.length := by omega
      subst hke
      have hul : (upto g l.length).length = l.length := upto_len g _
      go_wp2_with fail
      go_ret
      exact ⟨A1, c1, by rw [upto_len]; rfl, ho1, hi1, hb1⟩

end Go.Proofs.YtaaplalfggofiaaGreatDoor

/-
  condition.mapped, at whatever function of a byte; strings to bytes and back.
-/
namespace Go.Proofs.YtaaplalfggofiaaGreatDoor
open Go.RowKit

theorem ownBy_cell {w : World} {base g c : Nat} {l : List UInt8} (h : OwnBy w base (some ⟨g, 0, none⟩) c l) {i : Nat} {u : UInt8} (hi : l[i]? = some u) : w.cell? ⟨g, i, none⟩ = some (bv u) := by
  have hlt : i < l.length := (List.getElem?_eq_some_iff.1 hi).1
  rw [World.ownsRow.cellAt h _ (by omega), List.getElem?_map, hi]
  rfl
set_option maxRecDepth 100000 in
/-- string(b) of a row of the call's own -/
theorem conv_own {w : World} {base : Nat} {A : Option Addr} {c : Nat} {l : List UInt8} (h : OwnBy w base A c l) : (convert 186 9 (.slice A l.length c)).run Tryz.prog w = .ok (.string ⟨l.toArray⟩) w := by
  rcases Joins.ownsRow_forms h with ⟨e, h0⟩ | ⟨g, cap, e⟩
  · injection e with e1 e2 e3
    subst e1
    have : l = [] := List.eq_nil_of_length_eq_zero h0
    subst this
    exact run_convert_bytes_nil w 186 5 Tryz.underlying186 Tryz.underlying5 _ _ _ Tryz.underlying9
  · injection e with e1 e2 e3
    subst e1
    have hb : Lib.Bytes w g 0 ⟨l.toArray⟩ := fun i hi => by
      have hil : i < l.length := by simpa [ByteArray.size] using hi
      rw [Nat.zero_add, ownBy_cell h (List.getElem?_eq_getElem hil)]
      rfl
    have := Lib.run_convert_whole (P := Tryz.prog) w 186 5 9 Tryz.underlying186 Tryz.underlying5 Tryz.underlying9 g 0 ⟨l.toArray⟩ hb c
    simpa [ByteArray.size] using this
/-- []byte(s): a new block -/
theorem conv_bytes (w : World) (s : ByteArray) : ∃ (WB : World) (C : Nat), (convert 9 186 (.string s)).run Tryz.prog w = .ok (.slice (some ⟨w.heap.size, 0, none⟩) s.size C) WB ∧ WB.heap.size = w.heap.size + 1 ∧ Below w.heap.size w WB ∧ ∀ i c, s.data.toList[i]? = some c → WB.cell? ⟨w.heap.size, i, none⟩ = some (bv c) := by
  refine ⟨_, _, Lib.run_convert_string_bytes w 9 186 5 s Tryz.underlying9 Tryz.underlying186 Tryz.underlying5, Lib.bytesWorld_size _ _ _, ⟨?_, ?_, ?_, by rw [Lib.bytesWorld_size]; omega, fun k hk => Lib.bytesWorld_at_old _ _ _ k hk⟩, fun i c hi => ?_⟩
  · rfl
  · rfl
  · rfl
  · have hlt : i < s.data.toList.length := (List.getElem?_eq_some_iff.1 hi).1
    rw [Lib.bytesWorld_cell _ _ _ i (by simpa using hlt)]
    simp only [List.getD, hi]
    rfl

set_option maxRecDepth 100000 in
set_option maxHeartbeats 1000000 in
theorem mapped_any (ID : Nat) (caps : Array Value) (x : Option Nat) (s : ByteArray) (g : Nat → UInt8) (I : Nat → World → Prop) (w : World) (hE : EntersF ID) (hs : StepBy ID caps x s.data.toList g I) (hI : KeepsI w.heap.size I) (hx : ∀ n, x = some n → n < w.heap.size) (hi : I 0 w) (hl : s.size ≤ 1000) :
    Calls Tryz.prog 121 #[.string s, .func (.func ID) #[] caps] w fun e w' => e = .returned (.string ⟨(upto g s.size).toArray⟩) ∧ I s.size w' ∧ But w.heap.size x w w' := by
  have HE := hide hE
  have HS := hide hs
  have HI := hide hI
  have HX := hide hx
  clear hE hs hI hx
  obtain ⟨WB, C, hcv, hzB, hbB, hcB⟩ := conv_bytes (w.alloc (.cells #[.func (.func ID) #[] caps] 182)) s
  have hz1 : (w.alloc (.cells #[.func (.func ID) #[] caps] 182)).heap.size = w.heap.size + 1 := by simp
  rw [hz1] at hcv hzB hbB hcB
  have gB := (hbB.block w.heap.size (by omega)).trans (heap_alloc_new w (.cells #[.func (.func ID) #[] caps] 182))
  have HB0 := hide (show Below w.heap.size w WB from ((Below.refl _ w).alloc (Nat.le_refl _) _).trans (hbB.mono (by omega)))
  have HCB := hide hcB
  have HZB := hide hzB
  have cB : WB.cell? ⟨w.heap.size, 0, none⟩ = some (.func (.func ID) #[] caps) := by rw [cell_of_row WB _ _ _ _ (0, 0) gB]; rfl
  clear hcB hzB hbB hz1 gB
  have hsl : s.data.toList.length = s.size := by simp
  go_enter Tryz.func121, Tryz.ntmps121
  go_wp2_with fail
  refine (foldb_any ID caps x s.data.toList g I WB.heap.size HE.out HS.out (fun k W W' hb h => HI.out k W W' (hb.mono HB0.out.size) h) (fun n hn => Nat.lt_of_lt_of_le (HX.out n hn) HB0.out.size) (w.heap.size + 1) 0 C (some ⟨WB.heap.size, 0, none⟩) 0 w.heap.size _ (by rw [HZB.out]; omega) (fun e => by have := HX.out _ e; omega) (fun i c hi => by rw [Nat.zero_add]; exact ((Below.refl _ WB).alloc (Nat.le_refl _) _).cell (p := ⟨w.heap.size + 1, i, none⟩) (by rw [HZB.out]; simp) |>.trans (HCB.out i c hi)) (by simp) (by rw [HZB.out]; omega) (fun e => by have := HX.out _ e; omega) (((Below.refl _ WB).alloc (Nat.le_refl _) _).cell (p := ⟨w.heap.size, 0, none⟩) (by rw [HZB.out]; simp; omega) |>.trans cB) (World.ownsRow_lit WB #[] 0 (Nat.le_refl _) (by simp [maxLen]) rfl) (HI.out 0 w _ (HB0.out.alloc HB0.out.size _) hi) (by omega)).mono ?_
  rintro e w1 ⟨A1, c1, rfl, ho1, hi1, hb1⟩
  have hcv2 := conv_own ho1
  have HT := hide (show But w.heap.size x w w1 from (But.of (HB0.out.alloc HB0.out.size _)).trans (hb1.mono HB0.out.size))
  rw [upto_len, hsl] at hcv2
  rw [upto_len]
  rw [hsl] at hi1
  clear ho1 hb1
  go_wp2_with fail
  go_ret
  exact ⟨rfl, hi1, HT.out⟩

end Go.Proofs.YtaaplalfggofiaaGreatDoor

/-
  strings.Trim, Join, Repeat at this program: the library's contracts; condition.isBits and known.
-/
namespace Go.Proofs.YtaaplalfggofiaaGreatDoor
open Go.RowKit

theorem extra156 : Builder.Extra Tryz.prog Tryz.lays156_ren := { sizeBuilder := by kernel_rfl, liesBuilder := by kernel_rfl, t5 := Tryz.underlying5, a5 := Tryz.isAgg5, z5 := Tryz.sizeOf5, v5 := Tryz.zeroValue5, infoByte := by kernel_rfl, cellsByte := by kernel_rfl, sizeByte := by kernel_rfl, neB5 := by decide }
theorem extra105 : Builder.Extra Tryz.prog Tryz.lays105_ren := { sizeBuilder := by kernel_rfl, liesBuilder := by kernel_rfl, t5 := Tryz.underlying5, a5 := Tryz.isAgg5, z5 := Tryz.sizeOf5, v5 := Tryz.zeroValue5, infoByte := by kernel_rfl, cellsByte := by kernel_rfl, sizeByte := by kernel_rfl, neB5 := by decide }

theorem dropWhile_nil {p : UInt8 → Bool} : ∀ l : List UInt8, l.dropWhile p = [] ↔ l.all p = true
  | [] => by simp
  | c :: l => by
    by_cases h : p c = true
    · simp [h, dropWhile_nil l]
    · simp [h]
theorem trim_nil (l cs : List UInt8) : Lib.trimS l cs = [] ↔ l.all (cs.contains ·) = true := by
  unfold Lib.trimS Lib.trimLeftS Lib.trimRightS
  rw [dropWhile_nil]
  constructor
  · intro h
    rw [List.all_reverse] at h
    by_cases hn : l.reverse.dropWhile (cs.contains ·) = []
    · have := (dropWhile_nil _).1 hn
      rwa [List.all_reverse] at this
    · obtain ⟨c, r, e⟩ := List.exists_cons_of_ne_nil hn
      have hc : ¬ cs.contains c = true := by
        have := List.head?_dropWhile_not (cs.contains ·) l.reverse
        rw [e] at this
        simpa using this
      rw [e] at h
      simp only [List.all_cons, Bool.and_eq_true] at h
      exact absurd h.1 hc
  · intro h
    have : l.reverse.dropWhile (cs.contains ·) = [] := (dropWhile_nil _).2 (by rw [List.all_reverse]; exact h)
    rw [this]
    rfl
theorem trim_bits (l : List UInt8) : Lib.trimS l [48, 49, 120, 122] = [] ↔ l.all bitC = true := by
  rw [trim_nil]
  have : ∀ c : UInt8, ([48, 49, 120, 122] : List UInt8).contains c = bitC c := fun c => by simp only [bitC, List.contains, List.elem]; cases (c == 48) <;> cases (c == 49) <;> cases (c == 120) <;> cases (c == 122) <;> rfl
  simp only [this]
theorem trim_kn (l : List UInt8) : Lib.trimS l [48, 49] = [] ↔ l.all knC = true := by
  rw [trim_nil]
  have : ∀ c : UInt8, ([48, 49] : List UInt8).contains c = knC c := fun c => by simp only [knC, List.contains, List.elem]; cases (c == 48) <;> cases (c == 49) <;> rfl
  simp only [this]
theorem trim_any (s cs : ByteArray) (w : World) (hs : s.size ≤ 9223372036854775807) (hc : cs.size < 4294967281) (ha : cs.data.toList.all (fun b => decide (b.toNat < 128)) = true) :
    Calls Tryz.prog 176 #[.string s, .string cs] w fun e w' => e = .returned (.string ⟨(Lib.trimS s.data.toList cs.data.toList).toArray⟩) ∧ Below w.heap.size w w' :=
  Any.strings_Trim_laid Tryz.lays160 (by kernel_rfl) s cs w hs hc (ascii_of_all ha)

set_option maxRecDepth 100000 in
theorem known_any (s : ByteArray) (w : World) (hs : s.size ≤ 1000) : Calls Tryz.prog 116 #[.string s] w fun e w' => e = .returned (.bool (knownB s.data.toList)) ∧ Below w.heap.size w w' := by
  go_enter Tryz.func116, Tryz.ntmps116
  go_wp2_with fail
  refine (trim_any s ⟨#[48, 49]⟩ w (by omega) (by decide) (by decide)).mono ?_
  rintro e w1 ⟨rfl, b1⟩
  have hk : (Lib.trimS s.data.toList [48, 49]).isEmpty = knownB s.data.toList := by
    rw [Bool.eq_iff_iff, List.isEmpty_iff, trim_kn]; rfl
  have HK := hide hk
  clear hk
  go_wp2_with fail
  go_ret
  exact ⟨by rw [← HK.out]; rfl, b1⟩

theorem bytes_nil {s : ByteArray} (h : s.data.toList = []) : s = ⟨#[]⟩ := by
  obtain ⟨d⟩ := s
  congr 1
  exact Array.toList_inj.1 h
set_option maxRecDepth 100000 in
theorem isBits_any (s : ByteArray) (w : World) (hs : s.size ≤ 1000) : Calls Tryz.prog 111 #[.string s] w fun e w' => e = .returned (.bool (bitsB s.data.toList)) ∧ Below w.heap.size w w' := by
  by_cases h0 : s.data.toList = []
  · have := bytes_nil h0
    subst this
    go_enter Tryz.func111, Tryz.ntmps111
    go_wp2_with fail
    go_ret
    exact ⟨rfl, Below.refl _ _⟩
  · have he : (!s.data.toList.isEmpty) = true := by simpa using h0
    have hn : s.data.toList.isEmpty = false := by simpa using h0
    have hk : (Lib.trimS s.data.toList [48, 49, 120, 122]).isEmpty = bitsB s.data.toList := by
      unfold bitsB
      rw [he, Bool.true_and, Bool.eq_iff_iff, List.isEmpty_iff, trim_bits]
    have HK := hide hk
    have hq : s.toList.isEmpty = false := by rw [ByteArray.toList_eq]; exact hn
    have hq' : ¬ s.toList = [] := by rw [ByteArray.toList_eq]; exact h0
    clear hk he hn h0
    go_enter Tryz.func111, Tryz.ntmps111
    go_wp2_with fail
    refine (trim_any s ⟨#[48, 49, 120, 122]⟩ w (by omega) (by decide) (by decide)).mono ?_
    rintro e w1 ⟨rfl, b1⟩
    go_wp2_with fail
    go_ret
    exact ⟨by rw [← HK.out]; rfl, b1⟩

theorem repeat_any (s : ByteArray) (c : Nat) (w : World) (hc : s.size * c ≤ 1000) (hc' : c ≤ 1000) : Calls Tryz.prog 184 #[.string s, .int .i64 c] w fun e w' => e = .returned (.string ⟨(Lib.repeatL s.data.toList c).toArray⟩) ∧ Below w.heap.size w w' :=
  Any.strings_Repeat Tryz.lays105 extra105 s c w (by omega) (by omega)
theorem join_any (bk o c : Nat) (xs : List ByteArray) (sep : ByteArray) (w : World) (hcells : ∀ (j : Nat) x, xs[j]? = some x → w.cell? ⟨bk, o + j, none⟩ = some (.string x)) (hbk : bk < w.heap.size) (hN : xs.length ≤ 1000) (hcap : xs.length ≤ c) (hlen : (Lib.join (xs.map (·.data.toList)) sep.data.toList).length ≤ 140737488355328) :
    Calls Tryz.prog 119 #[.slice (some ⟨bk, o, none⟩) xs.length c, .string sep] w fun e w' => e = .returned (.string ⟨(Lib.join (xs.map (·.data.toList)) sep.data.toList).toArray⟩) ∧ Below w.heap.size w w' :=
  Any.strings_Join Tryz.lays156 extra156 bk o c xs sep w hcells hbk (by omega) hcap hlen
theorem join_none (a : Option Addr) (c : Nat) (sep : ByteArray) (w : World) : Calls Tryz.prog 119 #[.slice a 0 c, .string sep] w fun e w' => e = .returned (.string ⟨#[]⟩) ∧ w' = w :=
  Any.strings_Join_none Tryz.lays156 extra156 a c sep w

end Go.Proofs.YtaaplalfggofiaaGreatDoor
