/-
  strings.Trim, Join, Repeat at this program: the library's contracts; condition.isBits and known.
-/
import Derived.Test.YtdlebcijgdkfjaaGreatDoorShelf
import Derived.Test.YtdlebcijgdkfjaaGreatDoorMapped
import Derived.Shelf.Strings.SlTrimAscii
namespace Go.Proofs.YtdlebcijgdkfjaaGreatDoor
open Go.RowKit

theorem extra156 : Builder.Extra Tryz.prog Tryz.lays156_ren := { sizeBuilder := by kernel_rfl, liesBuilder := by kernel_rfl, t5 := Tryz.underlying5, a5 := Tryz.isAgg5, z5 := Tryz.sizeOf5, v5 := Tryz.zeroValue5, infoByte := by kernel_rfl, cellsByte := by kernel_rfl, sizeByte := by kernel_rfl, neB5 := by decide }
theorem extra105 : Builder.Extra Tryz.prog Tryz.lays105_ren := { sizeBuilder := by kernel_rfl, liesBuilder := by kernel_rfl, t5 := Tryz.underlying5, a5 := Tryz.isAgg5, z5 := Tryz.sizeOf5, v5 := Tryz.zeroValue5, infoByte := by kernel_rfl, cellsByte := by kernel_rfl, sizeByte := by kernel_rfl, neB5 := by decide }

theorem dropWhile_nil {p : UInt8 → Bool} : ∀ l : List UInt8, l.dropWhile p = [] ↔ l.all p = true
  | [] => by simp
  | c :: l => by
    by_cases h : p c = true
    · simp [h, dropWhile_nil l]
    · simp [h]
theorem trim_nil (l cs : List UInt8) : Lib.trimS l cs = [] ↔ l.all (cs.contains ·) = true := by
  unfold Lib.trimS Lib.trimLeftS Lib.trimRightS
  rw [dropWhile_nil]
  constructor
  · intro h
    rw [List.all_reverse] at h
    by_cases hn : l.reverse.dropWhile (cs.contains ·) = []
    · have := (dropWhile_nil _).1 hn
      rwa [List.all_reverse] at this
    · obtain ⟨c, r, e⟩ := List.exists_cons_of_ne_nil hn
      have hc : ¬ cs.contains c = true := by
        have := List.head?_dropWhile_not (cs.contains ·) l.reverse
        rw [e] at this
        simpa using this
      rw [e] at h
      simp only [List.all_cons, Bool.and_eq_true] at h
      exact absurd h.1 hc
  · intro h
    have : l.reverse.dropWhile (cs.contains ·) = [] := (dropWhile_nil _).2 (by rw [List.all_reverse]; exact h)
    rw [this]
    rfl
theorem trim_bits (l : List UInt8) : Lib.trimS l [48, 49, 120, 122] = [] ↔ l.all bitC = true := by
  rw [trim_nil]
  have : ∀ c : UInt8, ([48, 49, 120, 122] : List UInt8).contains c = bitC c := fun c => by simp only [bitC, List.contains, List.elem]; cases (c == 48) <;> cases (c == 49) <;> cases (c == 120) <;> cases (c == 122) <;> rfl
  simp only [this]
theorem trim_kn (l : List UInt8) : Lib.trimS l [48, 49] = [] ↔ l.all knC = true := by
  rw [trim_nil]
  have : ∀ c : UInt8, ([48, 49] : List UInt8).contains c = knC c := fun c => by simp only [knC, List.contains, List.elem]; cases (c == 48) <;> cases (c == 49) <;> rfl
  simp only [this]
theorem trim_any (s cs : ByteArray) (w : World) (hs : s.size ≤ 9223372036854775807) (hc : cs.size < 4294967281) (ha : cs.data.toList.all (fun b => decide (b.toNat < 128)) = true) :
    Calls Tryz.prog 83 #[.string s, .string cs] w fun e w' => e = .returned (.string ⟨(Lib.trimS s.data.toList cs.data.toList).toArray⟩) ∧ Below w.heap.size w w' :=
  Any.strings_Trim_laid Tryz.lays160 (by kernel_rfl) s cs w hs hc (ascii_of_all ha)

set_option maxRecDepth 100000 in
theorem known_any (s : ByteArray) (w : World) (hs : s.size ≤ 1000) : Calls Tryz.prog 37 #[.string s] w fun e w' => e = .returned (.bool (knownB s.data.toList)) ∧ Below w.heap.size w w' := by
  go_enter Tryz.func37, Tryz.ntmps37
  go_wp2_with fail
  refine (trim_any s ⟨#[48, 49]⟩ w (by omega) (by decide) (by decide)).mono ?_
  rintro e w1 ⟨rfl, b1⟩
  have hk : (Lib.trimS s.data.toList [48, 49]).isEmpty = knownB s.data.toList := by
    rw [Bool.eq_iff_iff, List.isEmpty_iff, trim_kn]; rfl
  have HK := hide hk
  clear hk
  go_wp2_with fail
  go_ret
  exact ⟨by rw [← HK.out]; rfl, b1⟩

theorem bytes_nil {s : ByteArray} (h : s.data.toList = []) : s = ⟨#[]⟩ := by
  obtain ⟨d⟩ := s
  congr 1
  exact Array.toList_inj.1 h
set_option maxRecDepth 100000 in
theorem isBits_any (s : ByteArray) (w : World) (hs : s.size ≤ 1000) : Calls Tryz.prog 32 #[.string s] w fun e w' => e = .returned (.bool (bitsB s.data.toList)) ∧ Below w.heap.size w w' := by
  by_cases h0 : s.data.toList = []
  · have := bytes_nil h0
    subst this
    go_enter Tryz.func32, Tryz.ntmps32
    go_wp2_with fail
    go_ret
    exact ⟨rfl, Below.refl _ _⟩
  · have he : (!s.data.toList.isEmpty) = true := by simpa using h0
    have hn : s.data.toList.isEmpty = false := by simpa using h0
    have hk : (Lib.trimS s.data.toList [48, 49, 120, 122]).isEmpty = bitsB s.data.toList := by
      unfold bitsB
      rw [he, Bool.true_and, Bool.eq_iff_iff, List.isEmpty_iff, trim_bits]
    have HK := hide hk
    have hq : s.toList.isEmpty = false := by rw [ByteArray.toList_eq]; exact hn
    have hq' : ¬ s.toList = [] := by rw [ByteArray.toList_eq]; exact h0
    clear hk he hn h0
    go_enter Tryz.func32, Tryz.ntmps32
    go_wp2_with fail
    refine (trim_any s ⟨#[48, 49, 120, 122]⟩ w (by omega) (by decide) (by decide)).mono ?_
    rintro e w1 ⟨rfl, b1⟩
    go_wp2_with fail
    go_ret
    exact ⟨by rw [← HK.out]; rfl, b1⟩

theorem repeat_any (s : ByteArray) (c : Nat) (w : World) (hc : s.size * c ≤ 1000) (hc' : c ≤ 1000) : Calls Tryz.prog 122 #[.string s, .int .i64 c] w fun e w' => e = .returned (.string ⟨(Lib.repeatL s.data.toList c).toArray⟩) ∧ Below w.heap.size w w' :=
  Any.strings_Repeat Tryz.lays105 extra105 s c w (by omega) (by omega)
theorem join_any (bk o c : Nat) (xs : List ByteArray) (sep : ByteArray) (w : World) (hcells : ∀ (j : Nat) x, xs[j]? = some x → w.cell? ⟨bk, o + j, none⟩ = some (.string x)) (hbk : bk < w.heap.size) (hN : xs.length ≤ 1000) (hcap : xs.length ≤ c) (hlen : (Lib.join (xs.map (·.data.toList)) sep.data.toList).length ≤ 140737488355328) :
    Calls Tryz.prog 74 #[.slice (some ⟨bk, o, none⟩) xs.length c, .string sep] w fun e w' => e = .returned (.string ⟨(Lib.join (xs.map (·.data.toList)) sep.data.toList).toArray⟩) ∧ Below w.heap.size w w' :=
  Any.strings_Join Tryz.lays156 extra156 bk o c xs sep w hcells hbk (by omega) hcap hlen
theorem join_none (a : Option Addr) (c : Nat) (sep : ByteArray) (w : World) : Calls Tryz.prog 74 #[.slice a 0 c, .string sep] w fun e w' => e = .returned (.string ⟨#[]⟩) ∧ w' = w :=
  Any.strings_Join_none Tryz.lays156 extra156 a c sep w

end Go.Proofs.YtdlebcijgdkfjaaGreatDoor
