/-
  wavestoreref52.Window, List and Some, and wavestorelaw52.delays: what they make.
-/
import Derived.Test.YtkbiefklilelmaaPair
import Derived.Test.YtkbiefklilelmaaRefNormal
namespace Go.Proofs.Ytkbiefklilelmaa
open Go.RowKit Go.Joins

theorem window_any (t a b n : Int) (w : World) (h1 : -1099511627776 ≤ a) (h2 : a ≤ 1099511627776) (h3 : -1099511627776 ≤ b) (h4 : b ≤ 1099511627776) (h5 : 0 ≤ t) (h6 : t ≤ 1099511627776) :
    Calls Try.prog 69 #[.int .i64 t, .int .i64 a, .int .i64 b, .int .i64 n] w fun e w' => e = .returned (.tuple #[.int .i64 (max 0 (t + a)), .int .i64 (min n (t + b))]) ∧ w = w' := by
  go_enter Try.func69, Try.ntmps69
  go_wp2
  go_ret2
  exact ⟨rfl, rfl⟩

def dl64 (a b lo hi : Int) : Bool := decide (-1099511627776 ≤ a ∧ a ≤ b ∧ b ≤ 1099511627776 ∧ 0 ≤ lo ∧ lo ≤ hi ∧ hi ≤ 64)
theorem dl64_iff {a b lo hi : Int} : dl64 a b lo hi = true ↔ (-1099511627776 ≤ a ∧ a ≤ b ∧ b ≤ 1099511627776 ∧ 0 ≤ lo ∧ lo ≤ hi ∧ hi ≤ 64) := by simp [dl64]
theorem dl64_any (a b lo hi : Int) (w : World) : Calls Try.prog 16 #[.int .i64 a, .int .i64 b, .int .i64 lo, .int .i64 hi] w fun e w' => e = .returned (.bool (dl64 a b lo hi)) ∧ w = w' := by
  have hd : dl64 a b lo hi = decide (-1099511627776 ≤ a ∧ a ≤ b ∧ b ≤ 1099511627776 ∧ 0 ≤ lo ∧ lo ≤ hi ∧ hi ≤ 64) := rfl
  by_cases h1 : -1099511627776 ≤ a
  · by_cases h2 : a ≤ b
    · by_cases h3 : b ≤ 1099511627776
      · by_cases h4 : 0 ≤ lo
        · by_cases h5 : lo ≤ hi
          · by_cases h6 : hi ≤ 64
            · have HD := hide (hd.trans (decide_eq_true ⟨h1, h2, h3, h4, h5, h6⟩))
              clear hd
              go_enter Try.func16, Try.ntmps16
              go_wp2
              go_ret
              exact ⟨by rw [HD.out]; rfl, rfl⟩
            · have HD := hide (hd.trans (decide_eq_false (fun h => h6 h.2.2.2.2.2)))
              clear hd
              go_enter Try.func16, Try.ntmps16
              go_wp2
              go_ret
              exact ⟨by rw [HD.out]; rfl, rfl⟩
          · have HD := hide (hd.trans (decide_eq_false (fun h => h5 h.2.2.2.2.1)))
            clear hd
            go_enter Try.func16, Try.ntmps16
            go_wp2
            go_ret
            exact ⟨by rw [HD.out]; rfl, rfl⟩
        · have HD := hide (hd.trans (decide_eq_false (fun h => h4 h.2.2.2.1)))
          clear hd
          go_enter Try.func16, Try.ntmps16
          go_wp2
          go_ret
          exact ⟨by rw [HD.out]; rfl, rfl⟩
      · have HD := hide (hd.trans (decide_eq_false (fun h => h3 h.2.2.1)))
        clear hd
        go_enter Try.func16, Try.ntmps16
        go_wp2
        go_ret
        exact ⟨by rw [HD.out]; rfl, rfl⟩
    · have HD := hide (hd.trans (decide_eq_false (fun h => h2 h.2.1)))
      clear hd
      go_enter Try.func16, Try.ntmps16
      go_wp2
      go_ret
      exact ⟨by rw [HD.out]; rfl, rfl⟩
  · have HD := hide (hd.trans (decide_eq_false (fun h => h1 h.1)))
    clear hd
    go_enter Try.func16, Try.ntmps16
    go_wp2
    go_ret
    exact ⟨by rw [HD.out]; rfl, rfl⟩

/-- the result at a time: 2 is true, 1 unknown, 0 false -/
def resOf (yes no low : Bool) : Int := if (yes && (!no || !low)) = true then 2 else if no = true then 0 else 1
theorem res_two (yes no : Bool) : resOf yes no false = 2 ↔ yes = true := by cases yes <;> cases no <;> simp [resOf]
theorem res_zero (yes no : Bool) : resOf yes no true = 0 ↔ no = true := by cases yes <;> cases no <;> simp [resOf]
theorem res_bd (yes no low : Bool) : 0 ≤ resOf yes no low ∧ resOf yes no low ≤ 2 := by cases yes <;> cases no <;> cases low <;> simp [resOf]
def listOf (xs zs : List Iv) (low : Bool) (lo : Int) (n : Nat) : List Int := (List.range n).map fun (i : Nat) => resOf (memT xs (lo + i)) (memT zs (lo + i)) low
theorem listOf_succ (xs zs : List Iv) (low : Bool) (lo : Int) (n : Nat) : listOf xs zs low lo (n + 1) = listOf xs zs low lo n ++ [resOf (memT xs (lo + n)) (memT zs (lo + n)) low] := by simp [listOf, List.range_succ]
theorem listOf_len (xs zs : List Iv) (low : Bool) (lo : Int) (n : Nat) : (listOf xs zs low lo n).length = n := by simp [listOf]
theorem listOf_at (xs zs : List Iv) (low : Bool) (lo : Int) (n i : Nat) (h : i < (listOf xs zs low lo n).length) : (listOf xs zs low lo n)[i] = resOf (memT xs (lo + i)) (memT zs (lo + i)) low := by simp [listOf]

/-- 'append(out, x)' of one integer that was laid into a block just before; which block it writes is told -/
theorem append_int1 {ops : Array Oper} {rest : List Oper} {o : Oper} {a : Act} {Q : Exit → Act → World → Prop} {w : World} (hgd : o.guard = none) (s x : Operand)
    (ho : o.op = .call { callee := .builtin .append, args := #[s, x], argTypes := #[36, 36] })
    (base : Nat) (A : Option Addr) (c : Nat) (zs : List Int) (n : Nat) (hs : a.eval s = .slice A n c) (hn : n = zs.length) (p : Int)
    (N : Nat) (hx : a.eval x = .slice (some ⟨N, 0, none⟩) 1 1) (wp : World) (hw : w.heap = wp.heap.push (.cells #[.int .i64 p] 3)) (hN : N = wp.heap.size)
    (hown : OwnInt wp base A c zs) (hlen : n + 1 ≤ 8796093022208) (hbase : base ≤ wp.heap.size)
    (h : ∀ (g c' : Nat) (w' : World), OwnInt w' base (some ⟨g, 0, none⟩) c' (zs ++ [p]) → base ≤ g → w.grownBy w' (Value.slice A zs.length c).ownBlock → (∀ k, (Value.slice A zs.length c).ownBlock = some k → base ≤ k) →
      wpList Try.prog ops Q rest (a.put o.dst (.slice (some ⟨g, 0, none⟩) (n + 1) c')) w') :
    wpList Try.prog ops Q (o :: rest) a w := by
  subst hn hN
  obtain ⟨i0, hi0, hz0, hz1, hz2⟩ := info_parts infoInt
  refine wpList_append_own _ hgd s x 36 ho base 3 i0 _ 1 8 Try.underlying36 hi0 hz0 hz1 hz2 rfl (by decide) _ zs.length (zs.map (Value.int .i64)) hs (own_push hown hw)
    ⟨wp.heap.size, 0, none⟩ 1 1 [.int .i64 p] hx rfl (fun j u hu => by rw [cells_push hw]; simpa using hu) (by simp [Value.oneCell']) (by simp only [maxLen]; omega) (by omega) (by rw [hw]; simp; omega) ?_
  intro v' w' ho' hg _
  obtain ⟨A', c', rfl, ho''⟩ := OwnInt.of_row (zs := zs ++ [p]) ho' (by simp) (by simp)
  rcases ho''.form with ⟨_, _, h3⟩ | ⟨g, rfl, h1, _⟩
  · simp at h3
  · have := h g c' w' ho'' h1 hg hown.block
    simpa using this

def ListRel (W0 : World) (xs zs : List Iv) (low : Bool) (lo hi : Int) (out t : Value) (wr : World) : Prop :=
  ∃ (n : Nat) (A : Option Addr) (c : Nat), (n : Int) ≤ hi - lo + 1 ∧ t = .int .i64 (lo + n) ∧ out = .slice A n c ∧ OwnInt wr W0.heap.size A c (listOf xs zs low lo n) ∧ Below W0.heap.size W0 wr

theorem refIn_is (v : Bool) (A : Option Addr) (c : Nat) (xs : List Iv) (t : Int) (w : World) (B : Nat) (h : IvsAt w B A xs) (hl : xs.length ≤ 4398046511104) (hv : memT xs t = v) :
    Calls Try.prog 49 #[.slice A xs.length c, .int .i64 t] w fun e w' => e = .returned (.bool v) ∧ w = w' := by
  subst hv; exact refIn_any A c xs t w B h hl

set_option maxRecDepth 100000 in
set_option maxHeartbeats 4000000 in
theorem list_any (A B : Option Addr) (c d : Nat) (xs zs : List Iv) (lo hi : Int) (low : Bool) (w : World) (hx : IvsAt w w.heap.size A xs) (hz : IvsAt w w.heap.size B zs) (lx : xs.length ≤ 24) (lz : zs.length ≤ 24) (h0 : 0 ≤ lo) (h1 : lo ≤ hi) (h2 : hi ≤ 64) :
    Calls Try.prog 23 #[.agg #[.slice A xs.length c, .slice B zs.length d], .int .i64 lo, .int .i64 hi, .bool low] w (RetInts w fun ps => ps = listOf xs zs low lo (hi - lo + 1).toNat) := by
  go_enter Try.func23, Try.ntmps23
  go_wp2_with fail
  obtain ⟨W0, hW0⟩ : ∃ W0 : World, w.alloc (.cells #[.slice A xs.length c, .slice B zs.length d] 24) = W0 := ⟨_, rfl⟩
  have hb0 : Below w.heap.size w W0 := by rw [← hW0]; exact (Below.refl _ _).alloc (Nat.le_refl _) _
  have g0 : W0.heap[w.heap.size]? = some (.cells #[.slice A xs.length c, .slice B zs.length d] 24 (0, 0)) := by rw [← hW0]; exact heap_alloc_new w _
  have z0 : W0.heap.size = w.heap.size + 1 := by rw [← hW0]; simp
  rw [hW0]
  rw [← z0]
  clear hW0
  have Z0 := hide z0
  clear z0
  go_loopw [9, 10, 11] (fun out t _ wr => ListRel W0 xs zs low lo hi out t wr) (fun _ t _ _ => (hi + 1 - intOf t).toNat)
  case atStart => exact ⟨0, some ⟨W0.heap.size, 0, none⟩, 0, by omega, by simp, rfl, OwnInt.empty _ _ (Nat.le_refl _), (Below.refl _ _).alloc (Nat.le_refl _) _⟩
  case round =>
    obtain ⟨n, A2, c2, hn, rfl, rfl, hown, hb⟩ := hrel
    by_cases hle : lo + n ≤ hi
    · have gb := below_box hb (box_lt g0) g0
      obtain ⟨q1, q2⟩ := box2 gb
      have hx' := ((hx.below hb0).more hb0.size).below hb
      have hz' := ((hz.below hb0).more hb0.size).below hb
      have hs := listOf_succ xs zs low lo n
      have hl := listOf_len xs zs low lo n
      generalize hy : memT xs (lo + n) = y at hs
      generalize hno : memT zs (lo + n) = no at hs
      have HY := hide hy
      have HNO := hide hno
      have HS := hide hs
      have HL := hide hl
      clear hs hy hno hl
      generalize listOf xs zs low lo n = ms at *
      go_upto_region 6 with fail
      go_quiet ((first | (go_at_call_of 49 (Value.slice A xs.length c); exact quiet_left (refIn_is y A c xs (lo + n) _ W0.heap.size (hx'.drewN _) (by omega) HY.out)) | (go_at_call_of 49 (Value.slice B zs.length d); exact quiet_left (refIn_is no B d zs (lo + n) _ W0.heap.size (hz'.drewN _) (by omega) HNO.out))))
      have hb' := below_drewN hb nq
      have hown' := hown.drewN nq
      generalize wr.drewN nq = wq at *
      clear q1 q2 gb hx' hz' HY HNO hown hb
      have hlm : n = ms.length := HL.out.symm
      have HLM := hide hlm
      have hle2 : ms.length ≤ 64 := by omega
      clear hlm HL
      cases y <;> cases no <;> cases low
      all_goals
        go_wp2_with (at_builtin; (refine append_int1 rfl _ _ rfl W0.heap.size A2 c2 ms n rfl HLM.out _ _ rfl _ rfl (by simp) hown' (by omega) hb'.size ?_)
                     intro g' c' w5 hown5 hg' hgrow hrow)
        go_roundw
        case rel =>
          refine ⟨n + 1, some ⟨g', 0, none⟩, c', by omega, by go_num, rfl, ?_, ?_⟩
          · rw [HS.out]; exact hown5
          · exact (hb'.alloc hb'.size _).grown hgrow (by have := hb'.size; simp; omega) hrow
        case measure => simp [intOf]; omega
    · have hn' : n = (hi - lo + 1).toNat := by omega
      have HN := hide hn'
      clear hn'
      go_wp2_with fail
      go_ret
      refine ⟨A2, c2, listOf xs zs low lo n, by rw [listOf_len]; rfl, hown.lower hb0.size, bstep hb0 hb, by rw [← HN.out]⟩

end Go.Proofs.Ytkbiefklilelmaa
