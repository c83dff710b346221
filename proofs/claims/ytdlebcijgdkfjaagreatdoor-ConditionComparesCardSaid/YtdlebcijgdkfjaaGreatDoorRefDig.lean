/-
  wavestoreref03.digit, digits.
-/
import Derived.Test.YtdlebcijgdkfjaaGreatDoorRef51
import Derived.Test.YtdlebcijgdkfjaaGreatDoorDecS
namespace Go.Proofs.YtdlebcijgdkfjaaGreatDoor
open Go.RowKit

theorem dgs_stop {l : List UInt8} {k : Nat} (_ : k ≤ l.length) (ha : (l.take k).all dgC = true) (he : ∀ c, l[k]? = some c → dgC c = false) : dgs l = l.take k ∧ rst l = l.drop k := by
  have h := dgs_app (l := l.take k) (r := l.drop k) (by simpa [List.all_eq_true] using ha) (fun c hc => he c (by simpa [List.head?_drop] using hc))
  rw [List.take_append_drop] at h
  exact h

theorem rdigit_any (c : UInt8) (w : World) : Calls Tryz.prog 225 #[.int .u8 (c.toNat : Int)] w fun e w' => e = .returned (.bool (dgC c)) ∧ w = w' := by
  have hc := byte_lt c
  by_cases h0 : 48 ≤ c.toNat
  · by_cases h1 : c.toNat ≤ 57
    · have HK := hide (show dgC c = true by unfold dgC; simp [h0, h1])
      have T := hide (show decide ((c.toNat : Int) ≤ 57) = true from decide_eq_true (by omega))
      go_enter Tryz.func225, Tryz.ntmps225
      go_wp2_with fail
      go_ret
      exact ⟨by rw [HK.out]; exact congrArg (fun b => Ending.returned (.bool b)) T.out, rfl⟩
    · have HK := hide (show dgC c = false by unfold dgC; simp [h0, h1])
      have T := hide (show decide ((c.toNat : Int) ≤ 57) = false from decide_eq_false (by omega))
      go_enter Tryz.func225, Tryz.ntmps225
      go_wp2_with fail
      go_ret
      exact ⟨by rw [HK.out]; exact congrArg (fun b => Ending.returned (.bool b)) T.out, rfl⟩
  · have HK := hide (show dgC c = false by unfold dgC; simp [h0])
    go_enter Tryz.func225, Tryz.ntmps225
    go_wp2_with fail
    go_ret
    exact ⟨by rw [HK.out]; rfl, rfl⟩

def DgRel (l : List UInt8) (i : Value) : Prop := ∃ k : Nat, k ≤ l.length ∧ i = .int .i64 k ∧ (l.take k).all dgC = true

set_option maxRecDepth 100000 in
theorem rdigits_any (s : ByteArray) (at' : Nat) (w : World) (hs : s.size ≤ 1000) (ha : at' ≤ s.size) : Calls Tryz.prog 200 #[.string s, .int .i64 (at' : Int)] w fun e w' => e = .returned (.int .i64 ((dgs (s.data.toList.drop at')).length : Int)) ∧ w = w' := by
  have HL := hide (show (s.data.toList.drop at').length = s.size - at' by simp)
  go_enter Tryz.func200, Tryz.ntmps200
  go_wp2_with fail
  go_loop [5] (fun i => DgRel (s.data.toList.drop at') i) (fun i => s.size - (intOf i).toNat)
  case atStart => exact ⟨0, Nat.zero_le _, rfl, rfl⟩
  case round =>
    obtain ⟨k, hk, rfl, hp⟩ := hrel
    rw [HL.out] at hk
    have HP := hide hp
    clear hp
    by_cases hlt : at' + k < s.size
    · have hx : (s.data.toList.drop at')[k]? = some s[at' + k] := by
        rw [List.getElem?_drop, List.getElem?_eq_getElem (by simpa using hlt)]; rfl
      have HX := hide hx
      clear hx
      have HT := hide (show (((s.data.toList.drop at').take (k + 1)).all dgC) = (((s.data.toList.drop at').take k).all dgC && dgC s[at' + k]) by
        rw [List.take_add_one, HX.out, List.all_append]; simp)
      cases hd : dgC s[at' + k] with
      | true =>
        have HD := hide hd
        clear hd
        go_wp2_with fail
        refine (rdigit_any _ _).mono ?_
        rw [HD.out]
        rintro e w1 ⟨rfl, rfl⟩
        go_wp2_with fail
        go_round
        case rel => exact ⟨k + 1, by rw [HL.out]; omega, by go_num, by rw [HT.out, HP.out, HD.out]; rfl⟩
        case measure => simp [intOf]; omega
      | false =>
        have HS := hide (dgs_stop (l := s.data.toList.drop at') (k := k) (by rw [HL.out]; omega) HP.out (by rw [HX.out]; rintro c ⟨⟩; exact hd)).1
        have HD := hide hd
        clear hd
        go_wp2_with fail
        refine (rdigit_any _ _).mono ?_
        rw [HD.out]
        rintro e w1 ⟨rfl, rfl⟩
        go_wp2_with fail
        go_ret
        exact ⟨by rw [HS.out, List.length_take, HL.out, Nat.min_eq_left (by omega)]; rfl, rfl⟩
    · have hke : k = s.size - at' := by omega
      subst hke
      have HS := hide (dgs_stop (l := s.data.toList.drop at') (k := s.size - at') (by rw [HL.out]; omega) HP.out (by rw [List.getElem?_eq_none (by rw [HL.out]; omega)]; rintro c ⟨⟩)).1
      go_wp2_with fail
      go_ret
      exact ⟨by rw [HS.out, List.length_take, HL.out, Nat.min_eq_left (by omega)]; rfl, rfl⟩

end Go.Proofs.YtdlebcijgdkfjaaGreatDoor
