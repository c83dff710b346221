/-
  condition.mapped, at whatever function of a byte; strings to bytes and back.
-/
import Derived.Test.YtdlebcijgdkfjaaGreatDoorFold
import Derived.Lib.ConvBytes
import Derived.Lib.SlBytesRow
import Derived.Laws.BytesArg
namespace Go.Proofs.YtdlebcijgdkfjaaGreatDoor
open Go.RowKit

theorem ownBy_cell {w : World} {base g c : Nat} {l : List UInt8} (h : OwnBy w base (some ⟨g, 0, none⟩) c l) {i : Nat} {u : UInt8} (hi : l[i]? = some u) : w.cell? ⟨g, i, none⟩ = some (bv u) := by
  have hlt : i < l.length := (List.getElem?_eq_some_iff.1 hi).1
  rw [World.ownsRow.cellAt h _ (by omega), List.getElem?_map, hi]
  rfl
set_option maxRecDepth 100000 in
/-- string(b) of a row of the call's own -/
theorem conv_own {w : World} {base : Nat} {A : Option Addr} {c : Nat} {l : List UInt8} (h : OwnBy w base A c l) : (convert 108 9 (.slice A l.length c)).run Tryz.prog w = .ok (.string ⟨l.toArray⟩) w := by
  rcases Joins.ownsRow_forms h with ⟨e, h0⟩ | ⟨g, cap, e⟩
  · injection e with e1 e2 e3
    subst e1
    have : l = [] := List.eq_nil_of_length_eq_zero h0
    subst this
    exact run_convert_bytes_nil w 108 5 Tryz.underlying108 Tryz.underlying5 _ _ _ Tryz.underlying9
  · injection e with e1 e2 e3
    subst e1
    have hb : Lib.Bytes w g 0 ⟨l.toArray⟩ := fun i hi => by
      have hil : i < l.length := by simpa [ByteArray.size] using hi
      rw [Nat.zero_add, ownBy_cell h (List.getElem?_eq_getElem hil)]
      rfl
    have := Lib.run_convert_whole (P := Tryz.prog) w 108 5 9 Tryz.underlying108 Tryz.underlying5 Tryz.underlying9 g 0 ⟨l.toArray⟩ hb c
    simpa [ByteArray.size] using this
/-- []byte(s): a new block -/
theorem conv_bytes (w : World) (s : ByteArray) : ∃ (WB : World) (C : Nat), (convert 9 108 (.string s)).run Tryz.prog w = .ok (.slice (some ⟨w.heap.size, 0, none⟩) s.size C) WB ∧ WB.heap.size = w.heap.size + 1 ∧ Below w.heap.size w WB ∧ ∀ i c, s.data.toList[i]? = some c → WB.cell? ⟨w.heap.size, i, none⟩ = some (bv c) := by
  refine ⟨_, _, Lib.run_convert_string_bytes w 9 108 5 s Tryz.underlying9 Tryz.underlying108 Tryz.underlying5, Lib.bytesWorld_size _ _ _, ⟨?_, ?_, ?_, by rw [Lib.bytesWorld_size]; omega, fun k hk => Lib.bytesWorld_at_old _ _ _ k hk⟩, fun i c hi => ?_⟩
  · rfl
  · rfl
  · rfl
  · have hlt : i < s.data.toList.length := (List.getElem?_eq_some_iff.1 hi).1
    rw [Lib.bytesWorld_cell _ _ _ i (by simpa using hlt)]
    simp only [List.getD, hi]
    rfl

set_option maxRecDepth 100000 in
set_option maxHeartbeats 1000000 in
theorem mapped_any (ID : Nat) (caps : Array Value) (x : Option Nat) (s : ByteArray) (g : Nat → UInt8) (I : Nat → World → Prop) (w : World) (hE : EntersF ID) (hs : StepBy ID caps x s.data.toList g I) (hI : KeepsI w.heap.size I) (hx : ∀ n, x = some n → n < w.heap.size) (hi : I 0 w) (hl : s.size ≤ 1000) :
    Calls Tryz.prog 76 #[.string s, .func (.func ID) #[] caps] w fun e w' => e = .returned (.string ⟨(upto g s.size).toArray⟩) ∧ I s.size w' ∧ But w.heap.size x w w' := by
  have HE := hide hE
  have HS := hide hs
  have HI := hide hI
  have HX := hide hx
  clear hE hs hI hx
  obtain ⟨WB, C, hcv, hzB, hbB, hcB⟩ := conv_bytes (w.alloc (.cells #[.func (.func ID) #[] caps] 119)) s
  have hz1 : (w.alloc (.cells #[.func (.func ID) #[] caps] 119)).heap.size = w.heap.size + 1 := by simp
  rw [hz1] at hcv hzB hbB hcB
  have gB := (hbB.block w.heap.size (by omega)).trans (heap_alloc_new w (.cells #[.func (.func ID) #[] caps] 119))
  have HB0 := hide (show Below w.heap.size w WB from ((Below.refl _ w).alloc (Nat.le_refl _) _).trans (hbB.mono (by omega)))
  have HCB := hide hcB
  have HZB := hide hzB
  have cB : WB.cell? ⟨w.heap.size, 0, none⟩ = some (.func (.func ID) #[] caps) := by rw [cell_of_row WB _ _ _ _ (0, 0) gB]; rfl
  clear hcB hzB hbB hz1 gB
  have hsl : s.data.toList.length = s.size := by simp
  go_enter Tryz.func76, Tryz.ntmps76
  go_wp2_with fail
  refine (foldb_any ID caps x s.data.toList g I WB.heap.size HE.out HS.out (fun k W W' hb h => HI.out k W W' (hb.mono HB0.out.size) h) (fun n hn => Nat.lt_of_lt_of_le (HX.out n hn) HB0.out.size) (w.heap.size + 1) 0 C (some ⟨WB.heap.size, 0, none⟩) 0 w.heap.size _ (by rw [HZB.out]; omega) (fun e => by have := HX.out _ e; omega) (fun i c hi => by rw [Nat.zero_add]; exact ((Below.refl _ WB).alloc (Nat.le_refl _) _).cell (p := ⟨w.heap.size + 1, i, none⟩) (by rw [HZB.out]; simp) |>.trans (HCB.out i c hi)) (by simp) (by rw [HZB.out]; omega) (fun e => by have := HX.out _ e; omega) (((Below.refl _ WB).alloc (Nat.le_refl _) _).cell (p := ⟨w.heap.size, 0, none⟩) (by rw [HZB.out]; simp; omega) |>.trans cB) (World.ownsRow_lit WB #[] 0 (Nat.le_refl _) (by simp [maxLen]) rfl) (HI.out 0 w _ (HB0.out.alloc HB0.out.size _) hi) (by omega)).mono ?_
  rintro e w1 ⟨A1, c1, rfl, ho1, hi1, hb1⟩
  have hcv2 := conv_own ho1
  have HT := hide (show But w.heap.size x w w1 from (But.of (HB0.out.alloc HB0.out.size _)).trans (hb1.mono HB0.out.size))
  rw [upto_len, hsl] at hcv2
  rw [upto_len]
  rw [hsl] at hi1
  clear ho1 hb1
  go_wp2_with fail
  go_ret
  exact ⟨rfl, hi1, HT.out⟩

end Go.Proofs.YtdlebcijgdkfjaaGreatDoor
