/-
  Several texts in one: QType, Typed, Resd. Each says at its head what it holds.
-/
import Derived.Test.YtdlebcijgdkfjaaGreatDoorCM20
import Derived.Test.YtdlebcijgdkfjaaGreatDoorCM2

/-
  qcheck.Type: the kind and the width of a resolved value.
-/
namespace Go.Proofs.YtdlebcijgdkfjaaGreatDoor
open Go.RowKit

set_option maxRecDepth 100000 in
set_option maxHeartbeats 4000000 in
theorem type_op (n : Nd) (hkk : ¬ (n.kind = 1 ∨ n.kind = 2 ∨ n.kind = 4 ∨ n.kind = 5)) (ih : ∀ k ∈ n.kids, TypeC k) : TypeC n := by
  intro w ht
  have HKK := hide hkk
  have IH := hide ih
  clear ih hkk
  obtain ⟨kind, at_, name, value, a, b, c, d, KA, kc, kids⟩ := n
  unfold Nd.KA Nd.kids at ht
  unfold cNd
  have hl := ht.len
  obtain ⟨W0, hW0⟩ : ∃ W0, w.alloc (.cells #[.int .i64 kind, .int .i64 at_, .string name, .string value, .int .i64 a, .int .i64 b, .int .i64 c, .int .i64 d, .slice KA kids.length kc] 32) = W0 := ⟨_, rfl⟩
  have g0 := new_at hW0
  have hb0 : Below w.heap.size w W0 := by rw [← hW0]; exact (Below.refl _ _).alloc (Nat.le_refl _) _
  have HT := hide (ht.grow hb0)
  have HG0 := hide g0
  have HB0 := hide hb0
  have HW0 := hide hW0
  obtain ⟨y0, y1, y2, y3, y4, y5, y6, y7, y8⟩ := box9 g0
  clear ht g0 hb0 hW0
  try dsimp only [Nd.kind, Nd.value, Nd.a, Nd.b, Nd.c, Nd.d, Nd.kids]
  have HQ := hide (show ∀ (o : Option (Int × Int)) (wr : World), typeF (.mk kind at_ name value a b c d KA kc kids) = o → Below W0.heap.size W0 wr → RetV (typV (typeF (.mk kind at_ name value a b c d KA kc kids))) w (.returned (typV o)) wr from fun o wr h hb => ⟨by rw [h], bstep HB0.out hb⟩)
  have HEQ := hide (typeF_mk kind at_ name value a b c d KA kc kids)
  go_enter Tryz.func48, Tryz.ntmps48
  go_upto_region 1 with (fail)
  rw [HW0.out]
  have hkk := HKK.out
  dsimp only [Nd.kind] at hkk
  have k1 : ¬ kind = 1 := fun h => hkk (.inl h)
  have k2 : ¬ kind = 2 := fun h => hkk (.inr (.inl h))
  have k4 : ¬ kind = 4 := fun h => hkk (.inr (.inr (.inl h)))
  have k5 : ¬ kind = 5 := fun h => hkk (.inr (.inr (.inr h)))
  clear hkk HKK
  rw [if_neg k1, if_neg k2, if_neg k4, if_neg k5] at HEQ
  have T1 : (kind == 1) = false := beq_eq_false_iff_ne.2 k1
  have T2 : (kind == 2) = false := beq_eq_false_iff_ne.2 k2
  have T4 : (kind == 4) = false := beq_eq_false_iff_ne.2 k4
  have T5 : (kind == 5) = false := beq_eq_false_iff_ne.2 k5
  clear k1 k2 k4 k5
  have HWD := hide (widths_any KA kc kids W0 HT.out IH.out)
  go_upto_region 7 with (go_at_call 93; refine HWD.out.mono ?_; rintro e w2 ⟨A2, c2, ws, ok, rfl, hb2, hi2, hok1, hok2⟩; have HB2 := hide hb2; have HI2 := hide hi2; have HK1 := hide hok1; have HK2 := hide hok2; clear hb2 hi2 hok1 hok2)
  clear y0 y1 y2 y3 y4 y5 y6 y7 y8
  cases ok with
  | false =>
    have HR := hide (HQ.out none w2 (by rw [HEQ.out, HK2.out rfl]) HB2.out)
    clear HQ HEQ
    go_wp2_with fail
    go_ret3
    exact HR.out
  | true =>
    have hws := HK1.out rfl
    obtain ⟨hw1, hw2⟩ := ws_of hws
    have HWS := hide hws
    have HW1 := hide hw1
    have HW2 := hide hw2
    clear hws hw1 hw2
    rw [HWS.out] at HEQ
    dsimp only at HEQ
    obtain ⟨y0, y1, y2, y3, y4, y5, y6, y7, y8⟩ := box9 ((HB2.out.block _ (box_lt HG0.out)).trans HG0.out)
    have hisv := isValue_any (.mk kind at_ name value a b c d KA kc kids) w2 (HT.out.grow HB2.out)
    unfold cNd at hisv
    have HISV := hide hisv
    clear hisv
    dsimp only [Nd.kind] at HISV
    by_cases hv : 1 ≤ kind ∧ kind ≤ 16
    · rw [show isValB kind = true from decide_eq_true hv] at HISV
      rw [if_pos hv] at HEQ
      clear hv
      go_upto_region 8 with (go_at_call 94; refine HISV.out.mono ?_; rintro e w3 ⟨rfl, hb3⟩; have HB3 := hide hb3; clear hb3)
      clear y0 y1 y2 y3 y4 y5 y6 y7 y8
      have HB23 := hide (bstep HB2.out HB3.out)
      obtain ⟨y0, y1, y2, y3, y4, y5, y6, y7, y8⟩ := box9 ((HB23.out.block _ (box_lt HG0.out)).trans HG0.out)
      have hop := operator_any (.mk kind at_ name value a b c d KA kc kids) A2 c2 ws w3 (HT.out.grow HB23.out) ⟨HI2.out.step HB3.out, by rw [HW2.out]; omega, HW1.out⟩
      unfold cNd at hop
      have HOP := hide hop
      clear hop
      dsimp only [Nd.kind, Nd.a, Nd.b] at HOP
      go_upto_region 21 with (go_at_call 95; refine HOP.out.mono ?_; rintro e w4 ⟨rfl, hb4⟩; have HB4 := hide hb4; clear hb4)
      clear y0 y1 y2 y3 y4 y5 y6 y7 y8
      by_cases h1 : 1 ≤ operF kind a b ws
      · have T9 : decide (operF kind a b ws < 1) = false := decide_eq_false (by omega)
        have HR := hide (HQ.out (some (0, operF kind a b ws)) w4 (by rw [HEQ.out]; unfold widthOk; rw [if_pos h1]) (bstep HB23.out HB4.out))
        clear HQ HEQ h1
        go_wp2_with fail
        go_ret3
        exact HR.out
      · have T9 : decide (operF kind a b ws < 1) = true := decide_eq_true (by omega)
        have HR := hide (HQ.out none w4 (by rw [HEQ.out]; unfold widthOk; rw [if_neg h1]) (bstep HB23.out HB4.out))
        clear HQ HEQ h1
        go_wp2_with fail
        go_ret3
        exact HR.out
    · rw [show isValB kind = false from decide_eq_false hv] at HISV
      rw [if_neg hv] at HEQ
      clear hv
      have HQ2 := hide (fun wr hb => HQ.out none wr HEQ.out hb)
      clear HQ HEQ
      go_wp2_with (go_at_call 94; refine HISV.out.mono ?_; rintro e w3 ⟨rfl, hb3⟩; have HB3 := hide hb3; clear hb3)
      go_ret3
      exact HQ2.out _ (bstep HB2.out HB3.out)

theorem type_any (n : Nd) : TypeC n := by
  induction n using Nd.ind with
  | h n ih =>
  by_cases hk : n.kind = 1 ∨ n.kind = 2 ∨ n.kind = 4 ∨ n.kind = 5
  · exact type_leaf n hk
  · exact type_op n hk ih

end Go.Proofs.YtdlebcijgdkfjaaGreatDoor

/-
  condition.typed: whether nodes are values of one type.
-/
namespace Go.Proofs.YtdlebcijgdkfjaaGreatDoor
open Go.RowKit

def typdV (o : Option Int) : Value := match o with | some k => .tuple #[.int .i64 k, .bool true] | none => .tuple #[.int .i64 0, .bool false]
def TyRel (l : List Nd) (p : Int × Int) (w : World) (i : Value) (wr : World) : Prop := ∃ j : Nat, j ≤ l.length ∧ i = .int .i64 (j : Int) ∧ (∀ y ∈ l.take j, typeF y = some p) ∧ Below w.heap.size w wr
theorem typedK_all {l : List Nd} {p : Int × Int} (hne : l ≠ []) (h : ∀ y ∈ l, typeF y = some p) : typedK l = some p.1 := by
  cases l with
  | nil => exact absurd rfl hne
  | cons x r =>
    unfold typedK
    dsimp only
    rw [h x (by simp)]
    dsimp only
    rw [if_pos fun y hy => h y (by simp [hy])]
theorem typedK_bad {l : List Nd} {x y : Nd} {r : List Nd} {p : Int × Int} (hl : l = x :: r) (hx : typeF x = some p) (hy : y ∈ l) (hne : typeF y ≠ some p) : typedK l = none := by
  subst hl
  unfold typedK
  dsimp only
  rw [hx]
  dsimp only
  rw [if_neg]
  intro h
  rcases List.mem_cons.1 hy with rfl | hy
  · exact hne hx
  · exact hne (h y hy)
theorem typedK_none {x : Nd} {r : List Nd} (hx : typeF x = none) : typedK (x :: r) = none := by
  unfold typedK
  dsimp only
  rw [hx]

set_option maxRecDepth 100000 in
set_option maxHeartbeats 4000000 in
theorem typed_any (A : Option Addr) (c : Nat) (l : List Nd) (w : World) (ht : TreesAt w (Lo w.heap.size) A l) (hne : l ≠ []) :
    Calls Tryz.prog 106 #[.slice A l.length c] w (RetV (typdV (typedK l)) w) := by
  have hlp := List.length_pos_iff.2 hne
  obtain ⟨bk, ok, rfl, hbk, hc⟩ := ht.row.at_ hlp
  obtain ⟨x, r, hl⟩ : ∃ x r, l = x :: r := by cases l with | nil => exact absurd rfl hne | cons x r => exact ⟨x, r, rfl⟩
  have hx0 : l[0] = x := by simp [hl]
  rw [hx0] at hc
  have hkid := ht.each x (by rw [hl]; simp)
  have hty := type_any x w hkid
  have hll := ht.len
  have HL := hide hl
  have HT := hide ht
  have HNE := hide hne
  obtain ⟨m1, m2, m3, m4, m5, m6, m7, m8, mK, mc, ml⟩ := x
  unfold cNd at hc hty
  obtain ⟨c0, c1, c2, c3, c4, c5, c6, c7, c8⟩ := nine hc
  simp only [Nat.zero_mul, Nat.add_zero] at c0 c1 c2 c3 c4 c5 c6 c7 c8
  have HTY := hide hty
  have T0 : decide (0 < l.length) = true := decide_eq_true hlp
  clear hc hkid hty hx0 ht hl hne
  go_enter Tryz.func106, Tryz.ntmps106
  cases hp : typeF (.mk m1 m2 m3 m4 m5 m6 m7 m8 mK mc ml) with
  | none =>
    rw [hp] at HTY
    unfold typV at HTY
    dsimp only at HTY
    have HN := hide (show typedK l = none by rw [HL.out]; exact typedK_none hp)
    have HP0 := hide hp
    have hall := fun (wr : World) (hb : Below w.heap.size w wr) => (HT.out.grow hb)
    have HALL := hide hall
    clear hp hall
    go_upto_region 3 with (go_at_call 48; refine HTY.out.mono ?_; rintro e w1 ⟨rfl, hb1⟩; have HB1 := hide hb1; clear hb1)
    clear c0 c1 c2 c3 c4 c5 c6 c7 c8
    go_loopw [22] (fun i wr => i = .int .i64 0 ∧ Below w.heap.size w wr) (fun _ _ => 0)
    case atStart => exact ⟨rfl, HB1.out⟩
    case round =>
      obtain ⟨rfl, hbr⟩ := hrel
      have HBR := hide hbr
      have hT := HT.out.grow hbr
      clear hbr
      obtain ⟨bk', ok', e, hbk', hc⟩ := hT.row.at_ hlp
      injection e with e
      injection e with e1 e2
      subst e1 e2
      obtain ⟨q, hq⟩ : ∃ q, q = l[0] := ⟨_, rfl⟩
      have hqx : q = .mk m1 m2 m3 m4 m5 m6 m7 m8 mK mc ml := by rw [hq]; simp [HL.out]
      rw [← hq, hqx] at hc
      have hkid := hT.each _ (List.getElem_mem hlp)
      rw [← hq, hqx] at hkid
      obtain ⟨W1, hW1⟩ : ∃ W1, wr.alloc (.cells (cNd (.mk m1 m2 m3 m4 m5 m6 m7 m8 mK mc ml)).toArray 32) = W1 := ⟨_, rfl⟩
      have g1 := new_at hW1
      have hb1 : Below wr.heap.size wr W1 := by rw [← hW1]; exact (Below.refl _ _).alloc (Nat.le_refl _) _
      have hty := type_any (.mk m1 m2 m3 m4 m5 m6 m7 m8 mK mc ml) W1 (hkid.grow hb1)
      rw [show typeF (.mk m1 m2 m3 m4 m5 m6 m7 m8 mK mc ml) = none from HP0.out] at hty
      unfold cNd at hc hty hW1 g1
      unfold typV at hty
      dsimp only at hty
      obtain ⟨c0, c1, c2, c3, c4, c5, c6, c7, c8⟩ := nine hc
      simp only [Nat.zero_mul, Nat.add_zero] at c0 c1 c2 c3 c4 c5 c6 c7 c8
      have HTQ := hide hty
      have HB2 := hide (bstep HBR.out hb1)
      have HW1 := hide hW1
      clear hc hkid hty hW1 hb1 hT hq hqx
      go_upto_region 5 with (fail)
      rw [HW1.out]
      clear HW1 c0 c1 c2 c3 c4 c5 c6 c7 c8
      obtain ⟨x0, x1, x2, x3, x4, x5, x6, x7, x8⟩ := box9 g1
      go_wp2_with (go_at_call 48; refine HTQ.out.mono ?_; rintro e w2 ⟨rfl, hb2⟩; have HB3 := hide hb2; clear hb2)
      go_ret2
      exact ⟨by rw [HN.out]; rfl, bstep HB2.out HB3.out⟩
  | some p =>
    obtain ⟨k0, w0⟩ := p
    rw [hp] at HTY
    unfold typV at HTY
    dsimp only at HTY
    have HP := hide hp
    clear hp
    go_upto_region 3 with (go_at_call 48; refine HTY.out.mono ?_; rintro e w1 ⟨rfl, hb1⟩; have HB1 := hide hb1; clear hb1)
    clear c0 c1 c2 c3 c4 c5 c6 c7 c8
    go_loopw [22] (fun i wr => TyRel l (k0, w0) w i wr) (fun i _ => l.length - (intOf i).toNat)
    case atStart => exact ⟨0, Nat.zero_le _, rfl, (fun y hy => by simp at hy), HB1.out⟩
    case round =>
      obtain ⟨j, hj, rfl, hok, hbr⟩ := hrel
      have HOK := hide hok
      have HBR := hide hbr
      clear hok hbr
      by_cases hlt : j < l.length
      · have hT := HT.out.grow HBR.out
        obtain ⟨bk', ok', e, hbk', hc⟩ := hT.row.at_ hlt
        injection e with e
        injection e with e1 e2
        subst e1 e2
        have hmem := List.getElem_mem hlt
        have hkid := hT.each _ hmem
        have HNX := hide (show typeF l[j] = some (k0, w0) → ∀ y ∈ l.take (j + 1), typeF y = some (k0, w0) from fun q y hy => by
          rw [List.take_succ_eq_append_getElem hlt] at hy
          rcases List.mem_append.1 hy with hy | hy
          · exact HOK.out y hy
          · simp at hy; subst hy; exact q)
        have HBAD := hide (show typeF l[j] ≠ some (k0, w0) → typedK l = none from typedK_bad HL.out HP.out hmem)
        generalize l[j] = q at *
        obtain ⟨W1, hW1⟩ : ∃ W1, wr.alloc (.cells (cNd q).toArray 32) = W1 := ⟨_, rfl⟩
        have g1 := new_at hW1
        have hb1 : Below wr.heap.size wr W1 := by rw [← hW1]; exact (Below.refl _ _).alloc (Nat.le_refl _) _
        have hty := type_any q W1 (hkid.grow hb1)
        obtain ⟨n1, n2, n3, n4, n5, n6, n7, n8, nK, nc, nl⟩ := q
        unfold cNd at hc hty hW1 g1
        obtain ⟨c0, c1, c2, c3, c4, c5, c6, c7, c8⟩ := nine hc
        have HTQ := hide hty
        have HB2 := hide (bstep HBR.out hb1)
        have HW1 := hide hW1
        clear hc hkid hty hW1 hb1 hmem hT
        go_upto_region 5 with (fail)
        rw [HW1.out]
        clear HW1 c0 c1 c2 c3 c4 c5 c6 c7 c8
        obtain ⟨x0, x1, x2, x3, x4, x5, x6, x7, x8⟩ := box9 g1
        cases hq : typeF (.mk n1 n2 n3 n4 n5 n6 n7 n8 nK nc nl) with
        | none =>
          rw [hq] at HTQ HBAD
          unfold typV at HTQ
          dsimp only at HTQ
          have HN := hide (HBAD.out (by simp))
          clear HBAD HNX hq
          go_wp2_with (go_at_call 48; refine HTQ.out.mono ?_; rintro e w2 ⟨rfl, hb2⟩; have HB3 := hide hb2; clear hb2)
          go_ret2
          exact ⟨by rw [HN.out]; rfl, bstep HB2.out HB3.out⟩
        | some p =>
          obtain ⟨k1, w1'⟩ := p
          rw [hq] at HTQ HBAD HNX
          unfold typV at HTQ
          dsimp only at HTQ
          by_cases hk : k1 = k0
          · by_cases hw : w1' = w0
            · subst hk hw
              have HN := hide (HNX.out rfl)
              clear HBAD HNX hq
              go_wp2_with (go_at_call 48; refine HTQ.out.mono ?_; rintro e w2 ⟨rfl, hb2⟩; have HB3 := hide hb2; clear hb2)
              exact ⟨⟨j + 1, hlt, by go_num, HN.out, bstep HB2.out HB3.out⟩, by simp [intOf]; omega⟩
            · have HN := hide (HBAD.out (fun e => by injection e with e; injection e with _ e; exact hw e))
              have T1 : (w1' != w0) = true := by simp [hw]
              subst hk
              clear HBAD HNX hq
              go_wp2_with (go_at_call 48; refine HTQ.out.mono ?_; rintro e w2 ⟨rfl, hb2⟩; have HB3 := hide hb2; clear hb2)
              go_ret2
              exact ⟨by rw [HN.out]; rfl, bstep HB2.out HB3.out⟩
          · have HN := hide (HBAD.out (fun e => by injection e with e; injection e with e _; exact hk e))
            have T1 : (k1 != k0) = true := by simp [hk]
            clear HBAD HNX hq
            go_wp2_with (go_at_call 48; refine HTQ.out.mono ?_; rintro e w2 ⟨rfl, hb2⟩; have HB3 := hide hb2; clear hb2)
            go_ret2
            exact ⟨by rw [HN.out]; rfl, bstep HB2.out HB3.out⟩
      · have hke : j = l.length := by omega
        have HE := hide (typedK_all HNE.out (by have := HOK.out; rw [hke, List.take_length] at this; exact this))
        clear hke
        go_wp2_with fail
        go_ret2
        exact ⟨by rw [HE.out]; rfl, HBR.out⟩

end Go.Proofs.YtdlebcijgdkfjaaGreatDoor

/-
  condition.resolved: which trees are resolved conditions.
-/
namespace Go.Proofs.YtdlebcijgdkfjaaGreatDoor
open Go.RowKit

theorem resF_mk (kind at_ : Int) (name value : ByteArray) (a b c d : Int) (KA : Option Addr) (kc : Nat) (kids : List Nd) : resF (.mk kind at_ name value a b c d KA kc kids) =
  if kind = 17 ∨ kind = 18 then kids.isEmpty
  else if 19 ≤ kind ∧ kind ≤ 26 then (kids.length == 2 && (match typedK kids with | some k => decide (k ≠ 2 ∨ kind ≤ 22) | none => false))
  else if kind = 27 then (kids.length == 1 && (match typedK kids with | some k => decide (k = 0) | none => false))
  else if kind = 28 then (match kids.map resF with | [x] => x | _ => false)
  else if kind = 29 ∨ kind = 30 then (match kids.map resF with | [x, y] => x && y | _ => false)
  else decide (typeF (.mk kind at_ name value a b c d KA kc kids) = some (0, 1)) := resF_eq _
theorem dec_beq (k z : Int) : decide (k = z) = (k == z) := by
  by_cases h : k = z
  · subst h; simp
  · rw [decide_eq_false h, beq_eq_false_iff_ne.2 h]
theorem two_of {α : Type} {l : List α} (h : l.length = 2) : ∃ x y, l = [x, y] := by
  match l, h with
  | [x, y], _ => exact ⟨x, y, rfl⟩
theorem empty_len (l : List Nd) : ((l.length : Int) == 0) = l.isEmpty := by
  cases l with
  | nil => rfl
  | cons x l => simp; omega

def ResC (n : Nd) : Prop := ∀ w : World, TreesAt w (Lo w.heap.size) n.KA n.kids → Calls Tryz.prog 59 #[.agg (cNd n).toArray] w (RetV (.bool (resF n)) w)

set_option maxRecDepth 100000 in
set_option maxHeartbeats 8000000 in
theorem resolved_any (n : Nd) : ResC n := by
  induction n using Nd.ind with
  | h n ih =>
  intro w ht
  have hself := type_any n
  have IH := hide ih
  clear ih
  obtain ⟨kind, at_, name, value, a, b, c, d, KA, kc, kids⟩ := n
  unfold Nd.KA Nd.kids at ht
  unfold cNd
  have hl := ht.len
  obtain ⟨W0, hW0⟩ : ∃ W0, w.alloc (.cells #[.int .i64 kind, .int .i64 at_, .string name, .string value, .int .i64 a, .int .i64 b, .int .i64 c, .int .i64 d, .slice KA kids.length kc] 32) = W0 := ⟨_, rfl⟩
  have g0 := new_at hW0
  have hb0 : Below w.heap.size w W0 := by rw [← hW0]; exact (Below.refl _ _).alloc (Nat.le_refl _) _
  have HT := hide (ht.grow hb0)
  have hself := hself W0 HT.out
  unfold cNd at hself
  have HSELF := hide hself
  have HG0 := hide g0
  have HB0 := hide hb0
  have HW0 := hide hW0
  obtain ⟨y0, y1, y2, y3, y4, y5, y6, y7, y8⟩ := box9 g0
  clear ht g0 hb0 hW0 hself
  have HQ := hide (show ∀ (o : Bool) (wr : World), resF (.mk kind at_ name value a b c d KA kc kids) = o → Below W0.heap.size W0 wr → RetV (.bool (resF (.mk kind at_ name value a b c d KA kc kids))) w (.returned (.bool o)) wr from fun o wr h hb => ⟨by rw [h], bstep HB0.out hb⟩)
  have HEQ := hide (resF_mk kind at_ name value a b c d KA kc kids)
  go_enter Tryz.func59, Tryz.ntmps59
  go_upto_region 1 with (fail)
  rw [HW0.out]
  by_cases k1 : kind = 17 ∨ kind = 18
  · rw [if_pos k1] at HEQ
    have HR := hide (HQ.out _ W0 (HEQ.out.trans (empty_len kids).symm) (Below.refl _ _))
    clear HQ HEQ HSELF
    rcases k1 with rfl | rfl
    · go_wp2_with fail
      go_ret
      exact HR.out
    · go_wp2_with fail
      go_ret
      exact HR.out
  rw [if_neg k1] at HEQ
  have T17 : (kind == 17) = false := beq_eq_false_iff_ne.2 fun h => k1 (.inl h)
  have T18 : (kind == 18) = false := beq_eq_false_iff_ne.2 fun h => k1 (.inr h)
  by_cases kc1 : 19 ≤ kind ∧ kind ≤ 26
  · rw [if_pos kc1] at HEQ
    have T19 : decide (19 ≤ kind) = true := decide_eq_true kc1.1
    have T26 : decide (kind ≤ 26) = true := decide_eq_true kc1.2
    by_cases h2 : kids.length = 2
    · have T2 : ((kids.length : Int) != 2) = false := by simp [h2]
      have HTD := hide (typed_any KA kc kids W0 HT.out (by intro e; rw [e] at h2; cases h2))
      have h2' : (kids.length == 2) = true := by simp [h2]
      rw [h2', Bool.true_and] at HEQ
      clear h2' h2 k1 kc1
      cases htk : typedK kids with
      | none =>
        rw [htk] at HTD HEQ
        unfold typdV at HTD
        dsimp only at HTD HEQ
        have HR := hide (fun wr hb => HQ.out false wr HEQ.out hb)
        clear HQ HEQ HSELF htk
        go_wp2_with (go_at_call 106; refine HTD.out.mono ?_; rintro e w2 ⟨rfl, hb2⟩; have HB2 := hide hb2; clear hb2)
        go_ret
        exact HR.out _ HB2.out
      | some k =>
        rw [htk] at HTD HEQ
        unfold typdV at HTD
        dsimp only at HTD HEQ
        by_cases q1 : k = 2
        · subst q1
          have HR := hide (fun wr hb => HQ.out (decide (kind ≤ 22)) wr (HEQ.out.trans (by simp)) hb)
          clear HQ HEQ HSELF htk
          go_wp2_with (go_at_call 106; refine HTD.out.mono ?_; rintro e w2 ⟨rfl, hb2⟩; have HB2 := hide hb2; clear hb2)
          go_ret
          exact HR.out _ HB2.out
        · have T3 : (k != 2) = true := by simp [q1]
          have HR := hide (fun wr hb => HQ.out true wr (HEQ.out.trans (by simp [q1])) hb)
          clear HQ HEQ HSELF htk q1
          go_wp2_with (go_at_call 106; refine HTD.out.mono ?_; rintro e w2 ⟨rfl, hb2⟩; have HB2 := hide hb2; clear hb2)
          go_ret
          exact HR.out _ HB2.out
    · have T2 : ((kids.length : Int) != 2) = true := by simp; omega
      have HR := hide (HQ.out false W0 (HEQ.out.trans (by simp [h2])) (Below.refl _ _))
      clear HQ HEQ HSELF k1 kc1 h2
      go_wp2_with fail
      go_ret
      exact HR.out
  rw [if_neg kc1] at HEQ
  by_cases k27 : kind = 27
  · subst k27
    rw [if_pos rfl] at HEQ
    by_cases h2 : kids.length = 1
    · have T2 : ((kids.length : Int) != 1) = false := by simp [h2]
      have HTD := hide (typed_any KA kc kids W0 HT.out (by intro e; rw [e] at h2; cases h2))
      have h2' : (kids.length == 1) = true := by simp [h2]
      rw [h2', Bool.true_and] at HEQ
      clear h2' h2 k1 kc1
      cases htk : typedK kids with
      | none =>
        rw [htk] at HTD HEQ
        unfold typdV at HTD
        dsimp only at HTD HEQ
        have HR := hide (fun wr hb => HQ.out false wr HEQ.out hb)
        clear HQ HEQ HSELF htk
        go_wp2_with (go_at_call 106; refine HTD.out.mono ?_; rintro e w2 ⟨rfl, hb2⟩; have HB2 := hide hb2; clear hb2)
        go_ret
        exact HR.out _ HB2.out
      | some k =>
        rw [htk] at HTD HEQ
        unfold typdV at HTD
        dsimp only at HTD HEQ
        have HR := hide (fun wr hb => HQ.out (k == 0) wr (HEQ.out.trans (dec_beq k 0)) hb)
        clear HQ HEQ HSELF htk
        go_wp2_with (go_at_call 106; refine HTD.out.mono ?_; rintro e w2 ⟨rfl, hb2⟩; have HB2 := hide hb2; clear hb2)
        go_ret
        exact HR.out _ HB2.out
    · have T2 : ((kids.length : Int) != 1) = true := by simp; omega
      have HR := hide (HQ.out false W0 (HEQ.out.trans (by simp [h2])) (Below.refl _ _))
      clear HQ HEQ HSELF k1 kc1 h2
      go_wp2_with fail
      go_ret
      exact HR.out
  rw [if_neg k27] at HEQ
  by_cases k28 : kind = 28
  · subst k28
    rw [if_pos rfl] at HEQ
    by_cases h2 : kids.length = 1
    · obtain ⟨x, rfl⟩ : ∃ x, kids = [x] := List.length_eq_one_iff.1 h2
      have HR := hide (fun wr hb => HQ.out (resF x) wr HEQ.out hb)
      obtain ⟨bk, ok, rfl, hbk, hc⟩ := HT.out.row.at_ (k := 0) (by simp)
      have hcall := IH.out x (by simp [Nd.kids]) W0 (HT.out.each x (by simp))
      have hx0 : [x][0] = x := rfl
      rw [hx0] at hc
      clear HQ HEQ HSELF k1 kc1 h2 hx0
      generalize resF x = rx at *
      obtain ⟨m1, m2, m3, m4, m5, m6, m7, m8, mK, mc, ml⟩ := x
      unfold cNd at hc hcall
      obtain ⟨c0, c1, c2, c3, c4, c5, c6, c7, c8⟩ := nine hc
      simp only [Nat.zero_mul, Nat.add_zero] at c0 c1 c2 c3 c4 c5 c6 c7 c8
      have HC := hide hcall
      clear hc hcall
      go_wp2_with (go_at_call 59; refine HC.out.mono ?_; rintro e w2 ⟨rfl, hb2⟩; have HB2 := hide hb2; clear hb2)
      go_ret
      exact HR.out _ HB2.out
    · have T2 : ((kids.length : Int) == 1) = false := by simp; omega
      have HR := hide (HQ.out false W0 (HEQ.out.trans (by
        cases kids with
        | nil => rfl
        | cons x r => cases r with
          | nil => exact absurd rfl h2
          | cons _ _ => rfl)) (Below.refl _ _))
      clear HQ HEQ HSELF k1 kc1 h2
      go_wp2_with fail
      go_ret
      exact HR.out
  rw [if_neg k28] at HEQ
  by_cases k29 : kind = 29 ∨ kind = 30
  · rw [if_pos k29] at HEQ
    by_cases h2 : kids.length = 2
    · obtain ⟨x, y, rfl⟩ : ∃ x y, kids = [x, y] := two_of h2
      have HR := hide (fun wr hb => HQ.out (resF x && resF y) wr HEQ.out hb)
      obtain ⟨bk, ok, rfl, hbk, hc⟩ := HT.out.row.at_ (k := 0) (by simp)
      obtain ⟨bk', ok', e, hbk', hd⟩ := HT.out.row.at_ (k := 1) (by simp)
      injection e with e
      injection e with e1 e2
      subst e1 e2
      have hx0 : [x, y][0] = x := rfl
      have hy0 : [x, y][1] = y := rfl
      rw [hx0] at hc
      rw [hy0] at hd
      have hcx := IH.out x (by simp [Nd.kids]) W0 (HT.out.each x (by simp))
      have HCY := hide (fun wr (hb : Below W0.heap.size W0 wr) => IH.out y (by simp [Nd.kids]) wr ((HT.out.each y (by simp)).grow hb))
      clear HQ HEQ HSELF k1 kc1 h2 hx0 hy0
      generalize resF x = rx at *
      generalize resF y = ry at *
      obtain ⟨m1, m2, m3, m4, m5, m6, m7, m8, mK, mc, ml⟩ := x
      obtain ⟨n1, n2, n3, n4, n5, n6, n7, n8, nK, nc, nl⟩ := y
      unfold cNd at hc hd hcx HCY
      obtain ⟨c0, c1, c2, c3, c4, c5, c6, c7, c8⟩ := nine hc
      obtain ⟨d0, d1, d2, d3, d4, d5, d6, d7, d8⟩ := nine hd
      simp only [Nat.zero_mul, Nat.one_mul, Nat.add_zero] at c0 c1 c2 c3 c4 c5 c6 c7 c8 d0 d1 d2 d3 d4 d5 d6 d7 d8
      have HC := hide hcx
      clear hc hd hcx
      have hT29 : (kind == 29) = true ∨ ((kind == 29) = false ∧ (kind == 30) = true) := by rcases k29 with rfl | rfl <;> simp
      cases rx with
      | false =>
        rcases k29 with rfl | rfl
        all_goals
          clear hT29
          go_wp2_with (go_at_call 59; refine HC.out.mono ?_; rintro e w2 ⟨rfl, hb2⟩; have HB2 := hide hb2; clear hb2)
          go_ret
          exact HR.out _ HB2.out
      | true =>
        rcases k29 with rfl | rfl
        all_goals
          clear hT29
          go_wp2_with (go_at_call 59; first | (refine (HCY.out _ HB2.out).mono ?_; rintro e w3 ⟨rfl, hb3⟩; have HB3 := hide hb3; clear hb3) | (refine HC.out.mono ?_; rintro e w2 ⟨rfl, hb2⟩; have HB2 := hide hb2; clear hb2; obtain ⟨u0, u1, u2, u3, u4, u5, u6, u7, u8⟩ := box9 ((HB2.out.block _ (box_lt HG0.out)).trans HG0.out); (have v0 := cell_later HB2.out d0; have v1 := cell_later HB2.out d1; have v2 := cell_later HB2.out d2; have v3 := cell_later HB2.out d3; have v4 := cell_later HB2.out d4; have v5 := cell_later HB2.out d5; have v6 := cell_later HB2.out d6; have v7 := cell_later HB2.out d7; have v8 := cell_later HB2.out d8); clear y0 y1 y2 y3 y4 y5 y6 y7 y8 c0 c1 c2 c3 c4 c5 c6 c7 c8 d0 d1 d2 d3 d4 d5 d6 d7 d8))
          go_ret
          exact HR.out _ (bstep HB2.out HB3.out)
    · have T2 : ((kids.length : Int) == 2) = false := by simp; omega
      have HR := hide (HQ.out false W0 (HEQ.out.trans (by
        cases kids with
        | nil => rfl
        | cons x r => cases r with
          | nil => rfl
          | cons y s => cases s with
            | nil => exact absurd rfl h2
            | cons _ _ => rfl)) (Below.refl _ _))
      clear HQ HEQ HSELF k1 kc1 h2
      rcases k29 with rfl | rfl
      all_goals
        go_wp2_with fail
        go_ret
        exact HR.out
  rw [if_neg k29] at HEQ
  have T27 : (kind == 27) = false := beq_eq_false_iff_ne.2 k27
  have T28 : (kind == 28) = false := beq_eq_false_iff_ne.2 k28
  have T29 : (kind == 29) = false := beq_eq_false_iff_ne.2 fun h => k29 (.inl h)
  have T30 : (kind == 30) = false := beq_eq_false_iff_ne.2 fun h => k29 (.inr h)
  have hT : decide (19 ≤ kind) = false ∨ (decide (19 ≤ kind) = true ∧ decide (kind ≤ 26) = false) := by
    by_cases h : 19 ≤ kind
    · exact .inr ⟨decide_eq_true h, decide_eq_false fun h2 => kc1 ⟨h, h2⟩⟩
    · exact .inl (decide_eq_false h)
  clear k1 kc1 k27 k28 k29
  cases hty : typeF (.mk kind at_ name value a b c d KA kc kids) with
  | none =>
    rw [hty] at HEQ HSELF
    unfold typV at HSELF
    dsimp only at HSELF
    have HR := hide (fun wr hb => HQ.out false wr HEQ.out hb)
    clear HQ HEQ hty
    rcases hT with T19 | ⟨T19, T26⟩
    all_goals
      go_wp2_with (go_at_call 48; refine HSELF.out.mono ?_; rintro e w2 ⟨rfl, hb2⟩; have HB2 := hide hb2; clear hb2)
      go_ret
      exact HR.out _ HB2.out
  | some p =>
    obtain ⟨k, v⟩ := p
    rw [hty] at HEQ HSELF
    unfold typV at HSELF
    dsimp only at HSELF
    by_cases q0 : k = 0
    · subst q0
      have HR := hide (fun wr hb => HQ.out (v == 1) wr (HEQ.out.trans ((by simp : decide (some (0, v) = some ((0 : Int), (1 : Int))) = decide (v = 1)).trans (dec_beq v 1))) hb)
      clear HQ HEQ hty
      rcases hT with T19 | ⟨T19, T26⟩
      all_goals
        go_wp2_with (go_at_call 48; refine HSELF.out.mono ?_; rintro e w2 ⟨rfl, hb2⟩; have HB2 := hide hb2; clear hb2)
        go_ret
        exact HR.out _ HB2.out
    · have T0 : (k == 0) = false := beq_eq_false_iff_ne.2 q0
      have HR := hide (fun wr hb => HQ.out false wr (HEQ.out.trans (by simp [q0])) hb)
      clear HQ HEQ hty q0
      rcases hT with T19 | ⟨T19, T26⟩
      all_goals
        go_wp2_with (go_at_call 48; refine HSELF.out.mono ?_; rintro e w2 ⟨rfl, hb2⟩; have HB2 := hide hb2; clear hb2)
        go_ret
        exact HR.out _ HB2.out

end Go.Proofs.YtdlebcijgdkfjaaGreatDoor
