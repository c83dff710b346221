/-
  bytes.Compare at two rows of bytes.
-/
import Derived.Test.YtdlebcijgdkfjaaGreatDoorDecM
import Derived.Lib.UnsafeStr
import Derived.Lib.Bytealg
namespace Go.Proofs.YtdlebcijgdkfjaaGreatDoor
open Go.RowKit

theorem cmp_lex : ∀ a b : List UInt8, Lib.compareBytes a b = lexC a b
  | [], [] => rfl
  | [], _ :: _ => rfl
  | _ :: _, [] => rfl
  | x :: p, y :: q => by rw [Lib.compareBytes, lexC, cmp_lex p q]
theorem run_lb {w : World} : ∀ (l : List UInt8) (a : Addr) (acc : ByteArray), (∀ j x, l[j]? = some x → w.cell? (a.add j) = some (.int .u8 x.toNat)) →
    (Extern.Bytes.loadBytes a l.length acc).run Tryz.prog w = .ok ⟨acc.data ++ l.toArray⟩ w
  | [], a, acc, _ => by simp [Extern.Bytes.loadBytes]
  | x :: l, a, acc, h => by
    have h0 : w.cell? a = some (.int .u8 x.toNat) := by
      have := h 0 x rfl
      simpa [Addr.add] using this
    have ih := run_lb l (a.add 1) (acc.push x) (fun j y hy => by
      have := h (j + 1) y (by simpa using hy)
      have e : (a.add 1).add j = a.add (j + 1) := by
        unfold Addr.add
        by_cases hj : j = 0
        · subst hj; simp
        · simp [hj]; omega
      rw [e]; exact this)
    have hx : ((x.toNat : Int).toNat).toUInt8 = x := by simp
    simp only [List.length_cons, Extern.Bytes.loadBytes, Sem.run_bind, run_load, h0, Result.andThen, hx]
    rw [ih]
    congr 1
    apply ByteArray.ext
    simp
theorem run_row {W : World} {A : Option Addr} {l : List UInt8} (h : BytesAt W A l) (c : Nat) : (Extern.Bytes.bytesOf (.slice A l.length c)).run Tryz.prog W = .ok (bs l) W := by
  cases l with
  | nil => cases A <;> rfl
  | cons x l =>
    obtain ⟨b, off, rfl, _⟩ := h 0 x rfl
    have := run_lb (w := W) (x :: l) ⟨b, off, none⟩ .empty (fun j y hj => by
      obtain ⟨b', off', e', hc⟩ := h j y hj
      injection e' with e'
      injection e' with e1 e2
      subst e1 e2
      rw [addr_add]
      exact hc)
    exact this.trans (by congr 1; apply ByteArray.ext; simp [bs])
set_option maxRecDepth 100000 in
theorem bcmp_any (A B : Option Addr) (c d : Nat) (x y : List UInt8) (w : World) (hx : BytesAt w A x) (hy : BytesAt w B y) :
    Calls Tryz.prog 197 #[.slice A x.length c, .slice B y.length d] w fun e w' => e = .returned (.int .i64 (lexC x y)) ∧ w = w' := by
  have HX := hide hx
  have HY := hide hy
  clear hx hy
  go_enter Tryz.func197, Tryz.ntmps197
  go_wp2_with fail
  rw [run_callFunc_extern Tryz.func223 (by kernel_rfl) (by kernel_rfl) (by kernel_rfl) (e := Extern.BytealgCompare.compare) (by kernel_rfl)]
  have hrun : (Extern.BytealgCompare.compare #[.slice A x.length c, .slice B y.length d]).run Tryz.prog w = .ok (.int .i64 (lexC x y)) w := by
    change Sem.run Tryz.prog (do pure (goInt (Extern.BytealgCompare.cmp (← Extern.Bytes.bytesOf (.slice A x.length c)) (← Extern.Bytes.bytesOf (.slice B y.length d))))) w = _
    simp only [Sem.run_bind, Sem.run_pure, run_row HX.out, run_row HY.out, Result.andThen]
    rw [Lib.cmp_eq, cmp_lex]
    rfl
  rw [hrun]
  simp only [Result.andThen]
  rw [Oper.upon_value]
  go_wp2
  go_ret
  exact ⟨rfl, rfl⟩

end Go.Proofs.YtdlebcijgdkfjaaGreatDoor
