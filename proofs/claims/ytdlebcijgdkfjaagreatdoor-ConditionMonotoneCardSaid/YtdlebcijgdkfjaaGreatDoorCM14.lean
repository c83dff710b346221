/-
  Several texts in one: CmpAll, TruP, SpanS, ZipP, Row, WavM. Each says at its head what it holds.
-/
import Derived.Test.YtdlebcijgdkfjaaGreatDoorCM8
import Derived.Test.YtdlebcijgdkfjaaGreatDoorCM10
import Derived.Test.YtdlebcijgdkfjaaGreatDoorCM13
import Derived.Test.YtdlebcijgdkfjaaGreatDoorCM2
import Derived.Test.YtdlebcijgdkfjaaGreatDoorCM3
import Derived.Test.YtdlebcijgdkfjaaGreatDoorCM6

/-
  condition.Compare, for any kind, operator and strings.
-/
namespace Go.Proofs.YtdlebcijgdkfjaaGreatDoor
open Go.RowKit

def eqS (a b : ByteArray) : Bool := a.toList == b.toList
def cmpBits (op : Int) (a b : ByteArray) : Bool × Bool :=
  if bitsB a.data.toList && bitsB b.data.toList && decide (a.size = b.size) then
    if op = 19 then ((eqP a.data.toList b.data.toList).1 && (eqP a.data.toList b.data.toList).2, (eqP a.data.toList b.data.toList).2)
    else if op = 20 then (!(eqP a.data.toList b.data.toList).1 && (eqP a.data.toList b.data.toList).2, (eqP a.data.toList b.data.toList).2)
    else if op = 21 then (eqS a b, true) else if op = 22 then (!eqS a b, true)
    else if knownB a.data.toList && knownB b.data.toList then (relC op (lexC a.data.toList b.data.toList), true) else (false, false)
  else (false, false)
def cmpReal (op : Int) (a b : ByteArray) : Bool × Bool :=
  if valB a && valB b then
    if op = 19 ∨ op = 21 then (eqS a b, true) else if op = 20 ∨ op = 22 then (!eqS a b, true)
    else (relC op ((cmpB a b).getD 0), true)
  else (false, false)
def cmpStr (op : Int) (a b : ByteArray) : Bool × Bool := if op = 19 ∨ op = 21 then (eqS a b, true) else if op = 20 ∨ op = 22 then (!eqS a b, true) else (false, false)
/-- the result of a comparison, and whether it is known -/
def cmpA (kind op : Int) (a b : ByteArray) : Bool × Bool :=
  if op < 19 ∨ 26 < op then (false, false) else if kind = 0 then cmpBits op a b else if kind = 1 then cmpReal op a b else if kind = 2 then cmpStr op a b else (false, false)
def CmpEnd (p : Bool × Bool) (w : World) (e : Ending) (w' : World) : Prop := e = .returned (.tuple #[.bool p.1, .bool p.2]) ∧ Below w.heap.size w w'
theorem strcmp_any (a b : ByteArray) (w : World) : Calls Tryz.prog 38 #[.string a, .string b] w fun e w' => e = .returned (.int .i64 (lexC a.data.toList b.data.toList)) ∧ w = w' := by
  refine (Tryz.strings_Compare a b w).mono ?_
  rintro e w' ⟨rfl, rfl⟩
  exact ⟨by rw [cmp_lex], rfl⟩
theorem op_cases {op : Int} (h1 : 19 ≤ op) (h2 : op ≤ 26) : op = 19 ∨ op = 20 ∨ op = 21 ∨ op = 22 ∨ 23 ≤ op := by omega

set_option maxRecDepth 100000 in
theorem ccmp_out (kind op : Int) (a b : ByteArray) (w : World) (h : op < 19 ∨ 26 < op) : Calls Tryz.prog 10 #[.int .i64 kind, .int .i64 op, .string a, .string b] w (CmpEnd (false, false) w) := by
  rcases h with h | h
  · go_enter Tryz.func10, Tryz.ntmps10
    go_wp2_with fail
    go_ret2
    exact ⟨rfl, Below.refl _ _⟩
  · have h' : ¬ op < 19 := by omega
    go_enter Tryz.func10, Tryz.ntmps10
    go_wp2_with fail
    go_ret2
    exact ⟨rfl, Below.refl _ _⟩
set_option maxRecDepth 100000 in
theorem ccmp_kind (kind op : Int) (a b : ByteArray) (w : World) (h1 : 19 ≤ op) (h2 : op ≤ 26) (k0 : kind ≠ 0) (k1 : kind ≠ 1) (k2 : kind ≠ 2) : Calls Tryz.prog 10 #[.int .i64 kind, .int .i64 op, .string a, .string b] w (CmpEnd (false, false) w) := by
  have t0 : (kind == 0) = false := beq_eq_false_iff_ne.2 k0
  have t1 : (kind == 1) = false := beq_eq_false_iff_ne.2 k1
  have t2 : (kind == 2) = false := beq_eq_false_iff_ne.2 k2
  clear k0 k1 k2
  go_enter Tryz.func10, Tryz.ntmps10
  go_wp2_with fail
  go_ret2
  exact ⟨rfl, Below.refl _ _⟩
set_option maxRecDepth 100000 in
theorem ccmp_str (op : Int) (a b : ByteArray) (w : World) (h1 : 19 ≤ op) (h2 : op ≤ 26) : Calls Tryz.prog 10 #[.int .i64 2, .int .i64 op, .string a, .string b] w (CmpEnd (cmpStr op a b) w) := by
  rcases op_cases h1 h2 with rfl | rfl | rfl | rfl | h3
  case' inr.inr.inr.inr =>
    have HV := hide (show cmpStr op a b = (false, false) by unfold cmpStr; rw [if_neg (by omega), if_neg (by omega)])
    go_enter Tryz.func10, Tryz.ntmps10
    go_wp2_with fail
    go_ret2
    exact ⟨by rw [HV.out]; rfl, Below.refl _ _⟩
  all_goals
    cases hE : (a.toList == b.toList)
    all_goals
      have HE := hide (show eqS a b = _ from hE)
      go_enter Tryz.func10, Tryz.ntmps10
      go_wp2_with fail
      go_ret2
      exact ⟨by unfold cmpStr; rw [HE.out]; rfl, Below.refl _ _⟩

set_option maxRecDepth 100000 in
set_option maxHeartbeats 1000000 in
theorem ccmp_real (op : Int) (a b : ByteArray) (w : World) (hT : Tab w) (h1 : 19 ≤ op) (h2 : op ≤ 26) : Calls Tryz.prog 10 #[.int .i64 1, .int .i64 op, .string a, .string b] w (CmpEnd (cmpReal op a b) w) := by
  have HT := hide hT
  clear hT
  cases hA : valB a with
  | false =>
    have HA := hide hA
    clear hA
    have HV := hide (show cmpReal op a b = (false, false) by unfold cmpReal; rw [HA.out]; rfl)
    go_enter Tryz.func10, Tryz.ntmps10
    go_wp2_with fail
    refine (valid_dec a _ HT.out).mono ?_
    rw [HA.out]
    rintro e w1 ⟨rfl, b1⟩
    go_wp2_with fail
    go_ret2
    exact ⟨by rw [HV.out]; rfl, b1⟩
  | true =>
    have HA := hide hA
    clear hA
    cases hB : valB b with
    | false =>
      have HB := hide hB
      clear hB
      have HV := hide (show cmpReal op a b = (false, false) by unfold cmpReal; rw [HA.out, HB.out]; rfl)
      go_enter Tryz.func10, Tryz.ntmps10
      go_wp2_with fail
      refine (valid_dec a _ HT.out).mono ?_
      rw [HA.out]
      rintro e w1 ⟨rfl, b1⟩
      have B1 := hide b1
      clear b1
      go_wp2_with fail
      refine (valid_dec b _ (HT.out.below B1.out)).mono ?_
      rw [HB.out]
      rintro e w2 ⟨rfl, b2⟩
      go_wp2_with fail
      go_ret2
      exact ⟨by rw [HV.out]; rfl, bstep B1.out b2⟩
    | true =>
      have HB := hide hB
      clear hB
      rcases op_cases h1 h2 with rfl | rfl | rfl | rfl | h3
      case' inr.inr.inr.inr =>
        have HV := hide (show cmpReal op a b = (relC op ((cmpB a b).getD 0), true) by unfold cmpReal; rw [HA.out, HB.out, if_pos (by rfl), if_neg (by omega), if_neg (by omega)])
        have t1 : (op == 19) = false := beq_eq_false_iff_ne.2 (by omega)
        have t2 : (op == 20) = false := beq_eq_false_iff_ne.2 (by omega)
        have t3 : (op == 21) = false := beq_eq_false_iff_ne.2 (by omega)
        have t4 : (op == 22) = false := beq_eq_false_iff_ne.2 (by omega)
        go_enter Tryz.func10, Tryz.ntmps10
        go_wp2_with fail
        refine (valid_dec a _ HT.out).mono ?_
        rw [HA.out]
        rintro e w1 ⟨rfl, b1⟩
        have B1 := hide b1
        clear b1
        go_wp2_with fail
        refine (valid_dec b _ (HT.out.below B1.out)).mono ?_
        rw [HB.out]
        rintro e w2 ⟨rfl, b2⟩
        have B2 := hide (bstep B1.out b2)
        clear b2
        go_wp2_with fail
        refine (compare_dec a b _ (HT.out.below B2.out)).mono ?_
        rintro e w3 ⟨rfl, b3⟩
        have B3 := hide (bstep B2.out b3)
        clear b3
        go_wp2_with fail
        refine (crel_any op _ _).mono ?_
        rintro e w4 ⟨rfl, rfl⟩
        go_wp2_with fail
        go_ret2
        exact ⟨by rw [HV.out]; rfl, B3.out⟩
      all_goals
        cases hE : (a.toList == b.toList)
        all_goals
          have HE := hide (show eqS a b = _ from hE)
          go_enter Tryz.func10, Tryz.ntmps10
          go_wp2_with fail
          refine (valid_dec a _ HT.out).mono ?_
          rw [HA.out]
          rintro e w1 ⟨rfl, b1⟩
          have B1 := hide b1
          clear b1
          go_wp2_with fail
          refine (valid_dec b _ (HT.out.below B1.out)).mono ?_
          rw [HB.out]
          rintro e w2 ⟨rfl, b2⟩
          have B2 := hide (bstep B1.out b2)
          clear b2
          go_wp2_with fail
          go_ret2
          exact ⟨by unfold cmpReal; rw [HE.out, HA.out, HB.out]; rfl, B2.out⟩

set_option maxRecDepth 100000 in
set_option maxHeartbeats 2000000 in
theorem ccmp_bits (op : Int) (a b : ByteArray) (w : World) (h1 : 19 ≤ op) (h2 : op ≤ 26) (la : a.size ≤ 1000) (lb : b.size ≤ 1000) : Calls Tryz.prog 10 #[.int .i64 0, .int .i64 op, .string a, .string b] w (CmpEnd (cmpBits op a b) w) := by
  cases hA : bitsB a.data.toList with
  | false =>
    have HA := hide hA
    clear hA
    have HV := hide (show cmpBits op a b = (false, false) by unfold cmpBits; rw [HA.out]; rfl)
    go_enter Tryz.func10, Tryz.ntmps10
    go_wp2_with fail
    refine (isBits_any a _ la).mono ?_
    rw [HA.out]
    rintro e w1 ⟨rfl, b1⟩
    go_wp2_with fail
    go_ret2
    exact ⟨by rw [HV.out]; rfl, b1⟩
  | true =>
    have HA := hide hA
    clear hA
    cases hB : bitsB b.data.toList with
    | false =>
      have HB := hide hB
      clear hB
      have HV := hide (show cmpBits op a b = (false, false) by unfold cmpBits; rw [HA.out, HB.out]; rfl)
      go_enter Tryz.func10, Tryz.ntmps10
      go_wp2_with fail
      refine (isBits_any a _ la).mono ?_
      rw [HA.out]
      rintro e w1 ⟨rfl, b1⟩
      have B1 := hide b1
      clear b1
      go_wp2_with fail
      refine (isBits_any b _ lb).mono ?_
      rw [HB.out]
      rintro e w2 ⟨rfl, b2⟩
      go_wp2_with fail
      go_ret2
      exact ⟨by rw [HV.out]; rfl, bstep B1.out b2⟩
    | true =>
      have HB := hide hB
      clear hB
      by_cases hs : a.size = b.size
      · have HS := hide hs
        have HG := hide (show (bitsB a.data.toList && bitsB b.data.toList && decide (a.size = b.size)) = true by rw [HA.out, HB.out, hs]; simp)
        have tne : ((a.size : Int) != (b.size : Int)) = false := by rw [hs]; simp
        clear hs
        rcases op_cases h1 h2 with rfl | rfl | rfl | rfl | h3
        · obtain ⟨x, y, hxy⟩ : ∃ x y, eqP a.data.toList b.data.toList = (x, y) := ⟨_, _, rfl⟩
          have HE := hide hxy
          have HV := hide (show cmpBits 19 a b = (x && y, y) by unfold cmpBits; rw [HG.out, HE.out]; rfl)
          clear hxy
          cases x <;> cases y
          all_goals
            go_enter Tryz.func10, Tryz.ntmps10
            go_wp2_with fail
            refine (isBits_any a _ la).mono ?_
            rw [HA.out]
            rintro e w1 ⟨rfl, b1⟩
            have B1 := hide b1
            clear b1
            go_wp2_with fail
            refine (isBits_any b _ lb).mono ?_
            rw [HB.out]
            rintro e w2 ⟨rfl, b2⟩
            have B2 := hide (bstep B1.out b2)
            clear b2
            go_wp2_with fail
            refine (equality_any a b _ HS.out la).mono ?_
            rw [HE.out]
            rintro e w3 ⟨rfl, b3⟩
            go_wp2_with fail
            go_ret2
            exact ⟨by rw [HV.out]; rfl, bstep B2.out b3⟩
        · obtain ⟨x, y, hxy⟩ : ∃ x y, eqP a.data.toList b.data.toList = (x, y) := ⟨_, _, rfl⟩
          have HE := hide hxy
          have HV := hide (show cmpBits 20 a b = (!x && y, y) by unfold cmpBits; rw [HG.out, HE.out]; rfl)
          clear hxy
          cases x <;> cases y
          all_goals
            go_enter Tryz.func10, Tryz.ntmps10
            go_wp2_with fail
            refine (isBits_any a _ la).mono ?_
            rw [HA.out]
            rintro e w1 ⟨rfl, b1⟩
            have B1 := hide b1
            clear b1
            go_wp2_with fail
            refine (isBits_any b _ lb).mono ?_
            rw [HB.out]
            rintro e w2 ⟨rfl, b2⟩
            have B2 := hide (bstep B1.out b2)
            clear b2
            go_wp2_with fail
            refine (equality_any a b _ HS.out la).mono ?_
            rw [HE.out]
            rintro e w3 ⟨rfl, b3⟩
            go_wp2_with fail
            go_ret2
            exact ⟨by rw [HV.out]; rfl, bstep B2.out b3⟩
        case' inr.inr.inr.inr =>
          have t1 : (op == 19) = false := beq_eq_false_iff_ne.2 (by omega)
          have t2 : (op == 20) = false := beq_eq_false_iff_ne.2 (by omega)
          have t3 : (op == 21) = false := beq_eq_false_iff_ne.2 (by omega)
          have t4 : (op == 22) = false := beq_eq_false_iff_ne.2 (by omega)
          have HV := hide (show cmpBits op a b = if knownB a.data.toList && knownB b.data.toList then (relC op (lexC a.data.toList b.data.toList), true) else (false, false) by unfold cmpBits; rw [HG.out, if_pos rfl, if_neg (by omega), if_neg (by omega), if_neg (by omega), if_neg (by omega)])
          go_enter Tryz.func10, Tryz.ntmps10
          go_wp2_with fail
          refine (isBits_any a _ la).mono ?_
          rw [HA.out]
          rintro e w1 ⟨rfl, b1⟩
          have B1 := hide b1
          clear b1
          go_wp2_with fail
          refine (isBits_any b _ lb).mono ?_
          rw [HB.out]
          rintro e w2 ⟨rfl, b2⟩
          have B2 := hide (bstep B1.out b2)
          clear b2
          cases hk : knownB a.data.toList with
          | false =>
            have HK := hide hk
            clear hk
            rw [HK.out] at HV
            go_wp2_with fail
            refine (known_any a _ la).mono ?_
            rw [HK.out]
            rintro e w3 ⟨rfl, b3⟩
            go_wp2_with fail
            go_ret2
            exact ⟨by rw [HV.out]; rfl, bstep B2.out b3⟩
          | true =>
            have HK := hide hk
            clear hk
            cases hk2 : knownB b.data.toList with
            | false =>
              have HK2 := hide hk2
              clear hk2
              rw [HK.out, HK2.out] at HV
              go_wp2_with fail
              refine (known_any a _ la).mono ?_
              rw [HK.out]
              rintro e w3 ⟨rfl, b3⟩
              have B3 := hide (bstep B2.out b3)
              clear b3
              go_wp2_with fail
              refine (known_any b _ lb).mono ?_
              rw [HK2.out]
              rintro e w4 ⟨rfl, b4⟩
              go_wp2_with fail
              go_ret2
              exact ⟨by rw [HV.out]; rfl, bstep B3.out b4⟩
            | true =>
              have HK2 := hide hk2
              clear hk2
              rw [HK.out, HK2.out] at HV
              go_wp2_with fail
              refine (known_any a _ la).mono ?_
              rw [HK.out]
              rintro e w3 ⟨rfl, b3⟩
              have B3 := hide (bstep B2.out b3)
              clear b3
              go_wp2_with fail
              refine (known_any b _ lb).mono ?_
              rw [HK2.out]
              rintro e w4 ⟨rfl, b4⟩
              have B4 := hide (bstep B3.out b4)
              clear b4
              go_wp2_with fail
              refine (strcmp_any a b _).mono ?_
              rintro e w5 ⟨rfl, rfl⟩
              go_wp2_with fail
              refine (crel_any op _ _).mono ?_
              rintro e w6 ⟨rfl, rfl⟩
              go_wp2_with fail
              go_ret2
              exact ⟨by rw [HV.out]; rfl, B4.out⟩
        all_goals
          cases hE : (a.toList == b.toList)
          all_goals
            have HE := hide (show eqS a b = _ from hE)
            go_enter Tryz.func10, Tryz.ntmps10
            go_wp2_with fail
            refine (isBits_any a _ la).mono ?_
            rw [HA.out]
            rintro e w1 ⟨rfl, b1⟩
            have B1 := hide b1
            clear b1
            go_wp2_with fail
            refine (isBits_any b _ lb).mono ?_
            rw [HB.out]
            rintro e w2 ⟨rfl, b2⟩
            go_wp2_with fail
            go_ret2
            exact ⟨by unfold cmpBits; rw [HG.out, HE.out]; rfl, bstep B1.out b2⟩
      · have HV := hide (show cmpBits op a b = (false, false) by unfold cmpBits; rw [HA.out, HB.out, decide_eq_false hs]; rfl)
        have tne : ((a.size : Int) != (b.size : Int)) = true := by rw [bne_iff_ne]; omega
        clear hs
        go_enter Tryz.func10, Tryz.ntmps10
        go_wp2_with fail
        refine (isBits_any a _ la).mono ?_
        rw [HA.out]
        rintro e w1 ⟨rfl, b1⟩
        have B1 := hide b1
        clear b1
        go_wp2_with fail
        refine (isBits_any b _ lb).mono ?_
        rw [HB.out]
        rintro e w2 ⟨rfl, b2⟩
        go_wp2_with fail
        go_ret2
        exact ⟨by rw [HV.out]; rfl, bstep B1.out b2⟩

theorem ccmp_any (kind op : Int) (a b : ByteArray) (w : World) (hT : Tab w) (la : a.size ≤ 1000) (lb : b.size ≤ 1000) : Calls Tryz.prog 10 #[.int .i64 kind, .int .i64 op, .string a, .string b] w (CmpEnd (cmpA kind op a b) w) := by
  unfold cmpA
  by_cases h : op < 19 ∨ 26 < op
  · rw [if_pos h]; exact ccmp_out kind op a b w h
  · rw [if_neg h]
    by_cases k0 : kind = 0
    · rw [if_pos k0]; subst k0; exact ccmp_bits op a b w (by omega) (by omega) la lb
    · rw [if_neg k0]
      by_cases k1 : kind = 1
      · rw [if_pos k1]; subst k1; exact ccmp_real op a b w hT (by omega) (by omega)
      · rw [if_neg k1]
        by_cases k2 : kind = 2
        · rw [if_pos k2]; subst k2; exact ccmp_str op a b w (by omega) (by omega)
        · rw [if_neg k2]; exact ccmp_kind kind op a b w (by omega) (by omega) k0 k1 k2

end Go.Proofs.YtdlebcijgdkfjaaGreatDoor

/-
  What a resolved condition says at one moment, and which trees are resolved conditions. Plain; no program in sight.
-/
namespace Go.Proofs.YtdlebcijgdkfjaaGreatDoor
open Go.RowKit

def bitS (p : Bool × Bool) : ByteArray := if p.2 then (if p.1 then ⟨#[49]⟩ else ⟨#[48]⟩) else ⟨#[120]⟩
def knownS (v : ByteArray) : Bool := knownB v.data.toList
def applyS (k : Int) (l : List ByteArray) : ByteArray := ⟨(applyL k 0 0 (vL2 l)).toArray⟩
def truB (env : Int → ByteArray) (n : Nd) (l : List ByteArray) : ByteArray :=
  if n.kind = 17 then ⟨#[49]⟩ else if n.kind = 18 then ⟨#[48]⟩
  else if 19 ≤ n.kind ∧ n.kind ≤ 26 then (match n.kids with | x :: y :: _ => bitS (cmpA (kindK x) n.kind (valF env x) (valF env y)) | _ => ⟨#[]⟩)
  else if n.kind = 27 then (match n.kids with | x :: _ => bitS (knownS (valF env x), true) | _ => ⟨#[]⟩)
  else if n.kind = 28 then (match l with | x :: _ => applyS 8 [x] | _ => ⟨#[]⟩)
  else if n.kind = 29 then (match l with | x :: y :: _ => applyS 9 [x, y] | _ => ⟨#[]⟩)
  else if n.kind = 30 then (match l with | x :: y :: _ => applyS 10 [x, y] | _ => ⟨#[]⟩)
  else bitS (decide (valF env n = ⟨#[49]⟩), knownS (valF env n))
def truF (env : Int → ByteArray) (n : Nd) : ByteArray := n.fold (truB env)
theorem truF_eq (env : Int → ByteArray) (n : Nd) : truF env n = truB env n (n.kids.map (truF env)) := Nd.fold_eq _ n

/-- one of the three results -/
def Tri3 (v : ByteArray) : Prop := v = ⟨#[49]⟩ ∨ v = ⟨#[48]⟩ ∨ v = ⟨#[120]⟩
theorem bitS_tri (p : Bool × Bool) : Tri3 (bitS p) := by
  obtain ⟨a, b⟩ := p
  cases a <;> cases b
  · exact .inr (.inr rfl)
  · exact .inr (.inl rfl)
  · exact .inr (.inr rfl)
  · exact .inl rfl
theorem not_tri {v : ByteArray} (h : Tri3 v) : Tri3 (applyS 8 [v]) ∧ (applyS 8 [v] = ⟨#[49]⟩ ↔ v = ⟨#[48]⟩) ∧ (applyS 8 [v] = ⟨#[48]⟩ ↔ v = ⟨#[49]⟩) := by
  unfold Tri3
  rcases h with rfl | rfl | rfl <;> decide
theorem and_tri {v u : ByteArray} (h : Tri3 v) (k : Tri3 u) : Tri3 (applyS 9 [v, u]) ∧ (applyS 9 [v, u] = ⟨#[49]⟩ ↔ v = ⟨#[49]⟩ ∧ u = ⟨#[49]⟩) ∧ (applyS 9 [v, u] = ⟨#[48]⟩ ↔ v = ⟨#[48]⟩ ∨ u = ⟨#[48]⟩) := by
  unfold Tri3
  rcases h with rfl | rfl | rfl <;> rcases k with rfl | rfl | rfl <;> decide
theorem or_tri {v u : ByteArray} (h : Tri3 v) (k : Tri3 u) : Tri3 (applyS 10 [v, u]) ∧ (applyS 10 [v, u] = ⟨#[49]⟩ ↔ v = ⟨#[49]⟩ ∨ u = ⟨#[49]⟩) ∧ (applyS 10 [v, u] = ⟨#[48]⟩ ↔ v = ⟨#[48]⟩ ∧ u = ⟨#[48]⟩) := by
  unfold Tri3
  rcases h with rfl | rfl | rfl <;> rcases k with rfl | rfl | rfl <;> decide
theorem tru_tri (env : Int → ByteArray) (n : Nd) : resF n = true → Tri3 (truF env n) := by
  induction n using Nd.ind with
  | h n ih =>
  intro hr
  rw [resF_eq] at hr
  rw [truF_eq]
  unfold resB at hr
  unfold truB
  by_cases k17 : n.kind = 17
  · rw [if_pos k17]; exact .inl rfl
  rw [if_neg k17]
  by_cases k18 : n.kind = 18
  · rw [if_pos k18]; exact .inr (.inl rfl)
  rw [if_neg k18]
  rw [if_neg (by omega)] at hr
  by_cases kc : 19 ≤ n.kind ∧ n.kind ≤ 26
  · rw [if_pos kc] at hr ⊢
    rw [Bool.and_eq_true, beq_iff_eq] at hr
    match h : n.kids, hr with
    | [x, y], _ => exact bitS_tri _
  rw [if_neg kc] at hr ⊢
  by_cases k27 : n.kind = 27
  · rw [if_pos k27] at hr ⊢
    rw [Bool.and_eq_true, beq_iff_eq] at hr
    match h : n.kids, hr with
    | [x], _ => exact bitS_tri _
  rw [if_neg k27] at hr ⊢
  by_cases k28 : n.kind = 28
  · rw [if_pos k28] at hr ⊢
    match h : n.kids, hr, ih with
    | [x], hr, ih => exact (not_tri (ih x (by simp) hr)).1
    | [], hr, _ => cases hr
    | _ :: _ :: _, hr, _ => cases hr
  rw [if_neg k28] at hr ⊢
  by_cases k29 : n.kind = 29
  · rw [if_pos (.inl k29)] at hr
    rw [if_pos k29]
    match h : n.kids, hr, ih with
    | [x, y], hr, ih =>
      have hr : (resF x && resF y) = true := hr
      rw [Bool.and_eq_true] at hr
      exact (and_tri (ih x (by simp) hr.1) (ih y (by simp) hr.2)).1
    | [], hr, _ => cases hr
    | [_], hr, _ => cases hr
    | _ :: _ :: _ :: _, hr, _ => cases hr
  rw [if_neg k29]
  by_cases k30 : n.kind = 30
  · rw [if_pos (.inr k30)] at hr
    rw [if_pos k30]
    match h : n.kids, hr, ih with
    | [x, y], hr, ih =>
      have hr : (resF x && resF y) = true := hr
      rw [Bool.and_eq_true] at hr
      exact (or_tri (ih x (by simp) hr.1) (ih y (by simp) hr.2)).1
    | [], hr, _ => cases hr
    | [_], hr, _ => cases hr
    | _ :: _ :: _ :: _, hr, _ => cases hr
  rw [if_neg k30]
  exact bitS_tri _

end Go.Proofs.YtdlebcijgdkfjaaGreatDoor

/-
  Lists of spans: what it means that they are a function's values over a range, each as long as can be; such a list is one alone. No program.
-/
namespace Go.Proofs.YtdlebcijgdkfjaaGreatDoor

structure Spn where
  f : Int
  t : Int
  v : ByteArray
/-- the spans of g from a to b -/
def Spans (g : Int → ByteArray) : Int → Int → List Spn → Prop
  | _, _, [] => False
  | a, b, [x] => x.f = a ∧ x.t = b ∧ a ≤ b ∧ ∀ t, a ≤ t → t ≤ b → g t = x.v
  | a, b, x :: y :: r => x.f = a ∧ a ≤ x.t ∧ (∀ t, a ≤ t → t ≤ x.t → g t = x.v) ∧ x.v ≠ y.v ∧ Spans g (x.t + 1) b (y :: r)
section
variable {g h : Int → ByteArray} {a b e e' : Int} {l m : List Spn} {x y : Spn}
theorem Spans.ne (hs : Spans g a b l) : l ≠ [] := by
  cases l with
  | nil => exact hs.elim
  | cons x l => simp
theorem Spans.head (hs : Spans g a b (x :: l)) : x.f = a ∧ a ≤ x.t ∧ g a = x.v ∧ ∀ t, a ≤ t → t ≤ x.t → g t = x.v := by
  cases l with
  | nil => obtain ⟨h1, h2, h3, h4⟩ := hs; exact ⟨h1, by omega, h4 a (by omega) (by omega), fun t h5 h6 => h4 t h5 (by omega)⟩
  | cons y l => obtain ⟨h1, h2, h3, _⟩ := hs; exact ⟨h1, h2, h3 a (by omega) (by omega), h3⟩
theorem Spans.le (hs : Spans g a b l) : a ≤ b := by
  induction l generalizing a with
  | nil => exact hs.elim
  | cons x l ih =>
    cases l with
    | nil => exact hs.2.2.1
    | cons y l => obtain ⟨_, h2, _, _, h5⟩ := hs; have := ih h5; omega
theorem Spans.congr (hs : Spans g a b l) (hg : ∀ t, a ≤ t → t ≤ b → h t = g t) : Spans h a b l := by
  induction l generalizing a with
  | nil => exact hs.elim
  | cons x l ih =>
    cases l with
    | nil => obtain ⟨h1, h2, h3, h4⟩ := hs; exact ⟨h1, h2, h3, fun t h5 h6 => (hg t h5 h6).trans (h4 t h5 h6)⟩
    | cons y l =>
      obtain ⟨h1, h2, h3, h4, h5⟩ := hs
      have := h5.le
      exact ⟨h1, h2, fun t h6 h7 => (hg t h6 (by omega)).trans (h3 t h6 h7), h4, ih h5 fun t h6 h7 => hg t (by omega) h7⟩
/-- the first span -/
theorem Spans.one (hle : a ≤ b) (hg : ∀ t, a ≤ t → t ≤ b → g t = x.v) (hf : x.f = a) (ht : x.t = b) : Spans g a b [x] := ⟨hf, ht, hle, hg⟩
/-- the value goes on -/
theorem Spans.same (hs : Spans g a e (l ++ [x])) (hle : e ≤ e') (hg : ∀ t, e < t → t ≤ e' → g t = x.v) : Spans g a e' (l ++ [⟨x.f, e', x.v⟩]) := by
  induction l generalizing a with
  | nil => obtain ⟨h1, h2, h3, h4⟩ := hs; exact ⟨h1, rfl, by omega, fun t h5 h6 => by
      rcases Int.lt_or_le e t with h7 | h7
      · exact hg t h7 h6
      · exact h4 t h5 h7⟩
  | cons y l ih =>
    cases l with
    | nil => obtain ⟨h1, h2, h3, h4, h5⟩ := hs; exact ⟨h1, h2, h3, h4, ih h5⟩
    | cons z l => obtain ⟨h1, h2, h3, h4, h5⟩ := hs; exact ⟨h1, h2, h3, h4, ih h5⟩
/-- another value follows -/
theorem Spans.more (hs : Spans g a e (l ++ [x])) (hle : e < e') (hg : ∀ t, e < t → t ≤ e' → g t = y.v) (hf : y.f = e + 1) (ht : y.t = e') (hv : x.v ≠ y.v) : Spans g a e' (l ++ [x] ++ [y]) := by
  induction l generalizing a with
  | nil =>
    obtain ⟨h1, h2, h3, h4⟩ := hs
    exact ⟨h1, by omega, fun t h5 h6 => h4 t h5 (by omega), hv, by omega, ht, by omega, fun t h5 h6 => hg t (by omega) h6⟩
  | cons z l ih =>
    cases l with
    | nil => obtain ⟨h1, h2, h3, h4, h5⟩ := hs; exact ⟨h1, h2, h3, h4, ih h5⟩
    | cons u l => obtain ⟨h1, h2, h3, h4, h5⟩ := hs; exact ⟨h1, h2, h3, h4, ih h5⟩
theorem Spans.last (hs : Spans g a b (l ++ [x])) : x.t = b ∧ g b = x.v := by
  induction l generalizing a with
  | nil => obtain ⟨h1, h2, h3, h4⟩ := hs; exact ⟨h2, h4 b h3 (Int.le_refl _)⟩
  | cons y l ih =>
    cases l with
    | nil => obtain ⟨_, _, _, _, h5⟩ := hs; exact ih h5
    | cons z l => obtain ⟨_, _, _, _, h5⟩ := hs; exact ih h5
/-- each span: its place, its value -/
theorem Spans.mem (hs : Spans g a b l) (hx : x ∈ l) : a ≤ x.f ∧ x.f ≤ x.t ∧ x.t ≤ b ∧ ∀ t, x.f ≤ t → t ≤ x.t → g t = x.v := by
  induction l generalizing a with
  | nil => cases hx
  | cons y l ih =>
    obtain ⟨h1, h2, _, h4⟩ := hs.head
    have hle := hs.le
    rcases List.mem_cons.1 hx with rfl | hx
    · refine ⟨by omega, by omega, ?_, fun t h5 h6 => h4 t (by omega) h6⟩
      cases l with
      | nil => obtain ⟨_, h6, _⟩ := hs; omega
      | cons z l => obtain ⟨_, _, _, _, h5⟩ := hs; have := h5.le; omega
    · cases l with
      | nil => cases hx
      | cons z l =>
        obtain ⟨_, _, _, _, h5⟩ := hs
        obtain ⟨k1, k2, k3, k4⟩ := ih h5 hx
        exact ⟨by omega, k2, k3, k4⟩
/-- each time lies in a span -/
theorem Spans.covers (hs : Spans g a b l) {t : Int} (h1 : a ≤ t) (h2 : t ≤ b) : ∃ x ∈ l, x.f ≤ t ∧ t ≤ x.t := by
  induction l generalizing a with
  | nil => exact hs.elim
  | cons x l ih =>
    obtain ⟨h3, h4, _, _⟩ := hs.head
    rcases Int.lt_or_le x.t t with h5 | h5
    · cases l with
      | nil => obtain ⟨_, h6, _⟩ := hs; omega
      | cons y l =>
        obtain ⟨_, _, _, _, h6⟩ := hs
        obtain ⟨z, hz, h7⟩ := ih h6 (by omega)
        exact ⟨z, List.mem_cons_of_mem _ hz, h7⟩
    · exact ⟨x, List.mem_cons_self .., by omega, h5⟩
/-- two neighbours -/
theorem Spans.next (hs : Spans g a b l) {i : Nat} (hi : l[i]? = some x) (hj : l[i + 1]? = some y) : y.f = x.t + 1 ∧ x.v ≠ y.v := by
  induction l generalizing a i with
  | nil => simp at hi
  | cons z l ih =>
    cases l with
    | nil => simp at hj
    | cons u l =>
      obtain ⟨_, _, _, h4, h5⟩ := hs
      cases i with
      | zero =>
        simp at hi hj
        subst hi hj
        exact ⟨h5.head.1, h4⟩
      | succ i => exact ih h5 (by simpa using hi) (by simpa using hj)
theorem Spans.first (hs : Spans g a b l) (hi : l[0]? = some x) : x.f = a ∧ g a = x.v := by
  cases l with
  | nil => simp at hi
  | cons z l => simp at hi; subst hi; exact ⟨hs.head.1, hs.head.2.2.1⟩
end

end Go.Proofs.YtdlebcijgdkfjaaGreatDoor

/-
  Rows of several lists of spans: what they say, plain.
-/
namespace Go.Proofs.YtdlebcijgdkfjaaGreatDoor

/-- the spans of a list that end before a time -/
def idx (l : List Spn) (t : Int) : Nat := (l.takeWhile fun x => decide (x.t < t)).length
theorem idx_le (l : List Spn) (t : Int) : idx l t ≤ l.length := by
  unfold idx
  exact (List.takeWhile_sublist _).length_le
theorem idx_cons (x : Spn) (l : List Spn) (t : Int) : idx (x :: l) t = if x.t < t then idx l t + 1 else 0 := by
  unfold idx
  rw [List.takeWhile_cons]
  by_cases h : x.t < t
  · rw [if_pos h, if_pos (decide_eq_true h)]; rfl
  · rw [if_neg h, if_neg (by simpa using h)]; rfl
theorem idx_mono {t u : Int} (h : t ≤ u) : ∀ l, idx l t ≤ idx l u
  | [] => Nat.le_refl _
  | x :: l => by
    rw [idx_cons, idx_cons]
    have := idx_mono h l
    by_cases h1 : x.t < t
    · rw [if_pos h1, if_pos (by omega)]; omega
    · rw [if_neg h1]; omega
/-- the one step of the search -/
theorem idx_step : ∀ {l : List Spn} {k : Nat} {x : Spn} {t : Int}, k ≤ idx l t → l[k]? = some x → (x.t < t ↔ k + 1 ≤ idx l t)
  | y :: l, 0, x, t, _, hx => by
    simp at hx
    subst hx
    rw [idx_cons]
    by_cases h : y.t < t
    · rw [if_pos h]; exact ⟨fun _ => by omega, fun _ => h⟩
    · rw [if_neg h]; exact ⟨fun h' => absurd h' h, fun h' => by omega⟩
  | y :: l, k + 1, x, t, hk, hx => by
    rw [idx_cons] at hk ⊢
    by_cases h : y.t < t
    · rw [if_pos h] at hk ⊢
      have := idx_step (l := l) (k := k) (x := x) (t := t) (by omega) (by simpa using hx)
      rw [this]; omega
    · rw [if_neg h] at hk; omega
theorem idx_first {g : Int → ByteArray} {a b : Int} {l : List Spn} (h : Spans g a b l) : idx l a = 0 := by
  cases l with
  | nil => rfl
  | cons x l => rw [idx_cons, if_neg (by have := h.head.2.1; omega)]
/-- the span of a time -/
theorem idx_at {g : Int → ByteArray} {a b t : Int} {l : List Spn} (h : Spans g a b l) (h1 : a ≤ t) (h2 : t ≤ b) : ∃ x, l[idx l t]? = some x ∧ x.f ≤ t ∧ t ≤ x.t ∧ x.t ≤ b ∧ (∀ u, t ≤ u → u ≤ x.t → g u = x.v) ∧ idx l t + 1 ≤ idx l (x.t + 1) := by
  induction l generalizing a with
  | nil => exact h.elim
  | cons x l ih =>
    obtain ⟨h3, h4, h5, h6⟩ := h.head
    rw [idx_cons]
    by_cases hx : x.t < t
    · rw [if_pos hx]
      cases l with
      | nil => obtain ⟨_, k, _⟩ := h; omega
      | cons y l =>
        obtain ⟨_, _, _, _, k⟩ := h
        obtain ⟨z, k1, k2, k3, k4, k5, k6⟩ := ih k (by omega)
        refine ⟨z, by simpa using k1, k2, k3, k4, k5, ?_⟩
        rw [idx_cons x, if_pos (by omega)]
        omega
    · rw [if_neg hx]
      refine ⟨x, rfl, by omega, by omega, (h.mem (x := x) (by simp)).2.2.1, fun u k1 k2 => h6 u (by omega) k2, ?_⟩
      rw [idx_cons, if_pos (by omega)]
      omega

structure Rw where
  f : Int
  t : Int
  vs : List ByteArray
/-- rows that cover [a, b) and hold the values of functions -/
def Cov (gs : List (Int → ByteArray)) : Int → Int → List Rw → Prop
  | a, b, [] => a = b
  | a, b, r :: rs => r.f = a ∧ a ≤ r.t ∧ (∀ u, a ≤ u → u ≤ r.t → r.vs = gs.map (· u)) ∧ Cov gs (r.t + 1) b rs
theorem Cov.snoc {gs : List (Int → ByteArray)} {a b : Int} {rs : List Rw} (h : Cov gs a b rs) {r : Rw} (h1 : r.f = b) (h2 : b ≤ r.t) (h3 : ∀ u, b ≤ u → u ≤ r.t → r.vs = gs.map (· u)) : Cov gs a (r.t + 1) (rs ++ [r]) := by
  induction rs generalizing a with
  | nil =>
    have : a = b := h
    subst this
    exact ⟨h1, h2, h3, rfl⟩
  | cons x rs ih =>
    obtain ⟨k1, k2, k3, k4⟩ := h
    exact ⟨k1, k2, k3, ih k4⟩
theorem Cov.le {gs : List (Int → ByteArray)} {a b : Int} {rs : List Rw} (h : Cov gs a b rs) : a ≤ b := by
  induction rs generalizing a with
  | nil => exact Int.le_of_eq h
  | cons x rs ih => obtain ⟨k1, k2, k3, k4⟩ := h; have := ih k4; omega

/-- lists over one range with their functions -/
def AllSp (a b : Int) : List (Int → ByteArray) → List (List Spn) → Prop
  | [], [] => True
  | g :: gs, l :: ls => Spans g a b l ∧ AllSp a b gs ls
  | _, _ => False
theorem AllSp.len {a b : Int} : ∀ {gs : List (Int → ByteArray)} {ls : List (List Spn)}, AllSp a b gs ls → gs.length = ls.length
  | [], [], _ => rfl
  | g :: gs, l :: ls, h => by have := AllSp.len h.2; simp [this]
theorem AllSp.snoc {a b : Int} {g : Int → ByteArray} {l : List Spn} (h1 : Spans g a b l) : ∀ {gs : List (Int → ByteArray)} {ls : List (List Spn)}, AllSp a b gs ls → AllSp a b (gs ++ [g]) (ls ++ [l])
  | [], [], _ => ⟨h1, trivial⟩
  | _ :: _, _ :: _, h => ⟨h.1, AllSp.snoc h1 h.2⟩
theorem AllSp.at {a b : Int} : ∀ {gs : List (Int → ByteArray)} {ls : List (List Spn)} {i : Nat} {l : List Spn}, AllSp a b gs ls → ls[i]? = some l → ∃ g, gs[i]? = some g ∧ Spans g a b l
  | [], [], _, _, _, hl => by simp at hl
  | g :: gs, l :: ls, 0, l', h, hl => by simp at hl; subst hl; exact ⟨g, rfl, h.1⟩
  | g :: gs, l :: ls, i + 1, l', h, hl => by
    obtain ⟨g', h1, h2⟩ := AllSp.at h.2 (i := i) (by simpa using hl)
    exact ⟨g', by simpa using h1, h2⟩

/-- the value of a list at a time, the end of its span -/
def valL (l : List Spn) (t : Int) : ByteArray := match l[idx l t]? with | some x => x.v | none => ⟨#[]⟩
def endL (l : List Spn) (t : Int) : Int := match l[idx l t]? with | some x => x.t | none => 0
def endLs (ls : List (List Spn)) (t b : Int) : Int := ls.foldl (fun e l => min e (endL l t)) b
theorem endLs_snoc (ls : List (List Spn)) (l : List Spn) (t b : Int) : endLs (ls ++ [l]) t b = min (endLs ls t b) (endL l t) := by unfold endLs; rw [List.foldl_append]; rfl
def cnt (ls : List (List Spn)) (t : Int) : Nat := (ls.map fun l => idx l t).sum
theorem cnt_mono {t u : Int} (h : t ≤ u) : ∀ ls, cnt ls t ≤ cnt ls u
  | [] => Nat.le_refl _
  | l :: ls => by
    have h1 := cnt_mono h ls
    have h2 := idx_mono h l
    unfold cnt at *
    simp only [List.map_cons, List.sum_cons]
    omega
theorem cnt_le (t : Int) : ∀ ls, cnt ls t ≤ (ls.map List.length).sum
  | [] => Nat.le_refl _
  | l :: ls => by
    have h1 := cnt_le t ls
    have h2 := idx_le l t
    unfold cnt at *
    simp only [List.map_cons, List.sum_cons]
    omega
/-- what a round brings -/
theorem row_at {a b t : Int} (h1 : a ≤ t) (h2 : t ≤ b) : ∀ {gs : List (Int → ByteArray)} {ls : List (List Spn)} (B : Int), AllSp a b gs ls → t ≤ B → B ≤ b →
    t ≤ endLs ls t B ∧ endLs ls t B ≤ B ∧ (∀ u, t ≤ u → u ≤ endLs ls t B → ls.map (valL · t) = gs.map (· u)) ∧ (endLs ls t B = B ∨ cnt ls t + 1 ≤ cnt ls (endLs ls t B + 1))
  | [], [], B, _, k1, k2 => ⟨k1, Int.le_refl _, fun _ _ _ => rfl, .inl rfl⟩
  | [], _ :: _, _, h, _, _ => h.elim
  | _ :: _, [], _, h, _, _ => h.elim
  | g :: gs, l :: ls, B, h, k1, k2 => by
    obtain ⟨x, e1, e2, e3, e4, e5, e6⟩ := idx_at h.1 h1 h2
    have hE : endL l t = x.t := by unfold endL; rw [e1]
    have hV : valL l t = x.v := by unfold valL; rw [e1]
    have hs : endLs (l :: ls) t B = endLs ls t (min B x.t) := by unfold endLs; rw [List.foldl_cons, hE]
    obtain ⟨c1, c2, c3, c4⟩ := row_at h1 h2 (min B x.t) h.2 (by omega) (by omega)
    rw [hs]
    refine ⟨c1, by omega, fun u u1 u2 => ?_, ?_⟩
    · rw [List.map_cons, List.map_cons, c3 u u1 u2, hV, e5 u u1 (by omega)]
    · have m1 := idx_mono (show t ≤ endLs ls t (min B x.t) + 1 by omega) l
      have m2 := cnt_mono (show t ≤ endLs ls t (min B x.t) + 1 by omega) ls
      have q : ∀ u, cnt (l :: ls) u = idx l u + cnt ls u := fun u => by unfold cnt; simp
      rw [q, q]
      rcases c4 with c4 | c4
      · rcases Int.lt_or_le x.t B with h5 | h5
        · right
          have h6 : endLs ls t (min B x.t) = x.t := by omega
          rw [h6] at m2 ⊢
          omega
        · left; omega
      · right; omega

/-- a row behind a list of spans -/
def spStep (out : List Spn) (a b : Int) (v : ByteArray) : List Spn := match out.getLast? with
  | none => [⟨a, b, v⟩]
  | some x => if x.v = v then out.dropLast ++ [⟨x.f, b, x.v⟩] else out ++ [⟨a, b, v⟩]
theorem spStep_snoc (l : List Spn) (x : Spn) (a b : Int) (v : ByteArray) : spStep (l ++ [x]) a b v = if x.v = v then l ++ [⟨x.f, b, x.v⟩] else l ++ [x] ++ [⟨a, b, v⟩] := by
  unfold spStep
  rw [List.getLast?_append]
  simp
def spL (F : List ByteArray → ByteArray) (rows : List Rw) : List Spn := rows.foldl (fun out r => spStep out r.f r.t (F r.vs)) []
theorem spL_snoc (F : List ByteArray → ByteArray) (rows : List Rw) (r : Rw) : spL F (rows ++ [r]) = spStep (spL F rows) r.f r.t (F r.vs) := by unfold spL; rw [List.foldl_append]; rfl
theorem spL_len (F : List ByteArray → ByteArray) (rows : List Rw) : (spL F rows).length ≤ rows.length := by
  suffices h : ∀ (m : Nat) (rows : List Rw), rows.length = m → (spL F rows).length ≤ rows.length from h _ rows rfl
  intro m
  induction m with
  | zero => intro rows h; rw [List.eq_nil_of_length_eq_zero h]; exact Nat.le_refl _
  | succ m ih =>
    intro rows h
    rcases List.eq_nil_or_concat rows with rfl | ⟨rs, r, rfl⟩
    · cases h
    · rw [List.concat_eq_append] at *
      rw [spL_snoc]
      have h1 := ih rs (by simpa using h)
      rcases List.eq_nil_or_concat (spL F rs) with h2 | ⟨l, x, h2⟩
      · rw [h2]; simp [spStep]
      · rw [List.concat_eq_append] at h2
        rw [h2, spStep_snoc]
        rw [h2] at h1
        simp only [List.length_append, List.length_cons, List.length_nil] at h1 ⊢
        split <;> simp <;> omega
theorem spL_spans {F : List ByteArray → ByteArray} {gs : List (Int → ByteArray)} {a b : Int} {rows : List Rw} (h : Cov gs a b rows) (hne : rows ≠ []) : Spans (fun u => F (gs.map (· u))) a (b - 1) (spL F rows) := by
  suffices H : ∀ (m : Nat) (rows : List Rw) (b : Int), rows.length = m → Cov gs a b rows → rows ≠ [] → Spans (fun u => F (gs.map (· u))) a (b - 1) (spL F rows) from H _ rows b rfl h hne
  intro m
  induction m with
  | zero => intro rows b h1 _ h2; exact absurd (List.eq_nil_of_length_eq_zero h1) h2
  | succ m ih =>
    intro rows b h1 h2 h3
    rcases List.eq_nil_or_concat rows with rfl | ⟨rs, r, rfl⟩
    · exact absurd rfl h3
    · rw [List.concat_eq_append] at *
      have key : ∀ {rs : List Rw} {a : Int}, Cov gs a b (rs ++ [r]) → Cov gs a r.f rs ∧ r.f ≤ r.t ∧ (∀ u, r.f ≤ u → u ≤ r.t → r.vs = gs.map (· u)) ∧ b = r.t + 1 := by
        intro rs
        induction rs with
        | nil => intro a h; obtain ⟨k1, k2, k3, k4⟩ := h; have k4 : r.t + 1 = b := k4; subst k1; exact ⟨rfl, k2, k3, k4.symm⟩
        | cons x rs ih => intro a h; obtain ⟨k1, k2, k3, k4⟩ := h; obtain ⟨j1, j2, j3, j4⟩ := ih k4; exact ⟨⟨k1, k2, k3, j1⟩, j2, j3, j4⟩
      obtain ⟨k1, k2, k3, k4⟩ := key h2
      have kb : b - 1 = r.t := by omega
      rw [spL_snoc, kb]
      have hg : ∀ u, r.f ≤ u → u ≤ r.t → F (gs.map (· u)) = F r.vs := fun u u1 u2 => by rw [k3 u u1 u2]
      rcases List.eq_nil_or_concat rs with rfl | ⟨rs', r', rfl⟩
      · have k1 : a = r.f := k1
        exact Spans.one (by omega) (fun u u1 u2 => hg u (by omega) u2) k1.symm rfl
      · rw [List.concat_eq_append] at *
        have h4 := ih _ r.f (by simpa using h1) k1 (by simp)
        rcases List.eq_nil_or_concat (spL F (rs' ++ [r'])) with h5 | ⟨l, x, h5⟩
        · rw [h5] at h4; exact h4.elim
        · rw [List.concat_eq_append] at h5
          rw [h5] at h4 ⊢
          rw [spStep_snoc]
          split
          · rename_i hv
            exact Spans.same (g := fun u => F (gs.map (· u))) h4 (by omega) fun u u1 u2 => (hg u (by omega) u2).trans hv.symm
          · rename_i hv
            exact Spans.more (g := fun u => F (gs.map (· u))) (y := ⟨r.f, r.t, F r.vs⟩) h4 (by omega) (fun u u1 u2 => hg u (by omega) u2) (by show r.f = _; omega) rfl hv

end Go.Proofs.YtdlebcijgdkfjaaGreatDoor

/-
  Rows of whatever elements in memory; automata: their edges, final states and lists of trees.
-/
namespace Go.Proofs.YtdlebcijgdkfjaaGreatDoor
open Go.RowKit

/-- a row of elements in blocks that P names -/
def Row {α : Type} (w : World) (P : Nat → Prop) (size : Nat) (cells : α → List Value) (A : Option Addr) (xs : List α) : Prop :=
  xs ≠ [] → ∃ b off, A = some ⟨b, off, none⟩ ∧ P b ∧ ∀ i x, xs[i]? = some x → ∀ j, j < size → w.cell? ⟨b, off + i * size + j, none⟩ = (cells x)[j]?

section
variable {α : Type} {w w' : World} {P P' : Nat → Prop} {size : Nat} {cells : α → List Value} {A : Option Addr} {xs : List α}
theorem Row.stay (h : Row w P size cells A xs) (hs : Stay P w w') : Row w' P size cells A xs := fun hx => by
  obtain ⟨b, off, e, hb, hc⟩ := h hx
  exact ⟨b, off, e, hb, fun i x hi j hj => (hs.cell hb).trans (hc i x hi j hj)⟩
theorem Row.more (h : Row w P size cells A xs) (hp : ∀ b, P b → P' b) : Row w P' size cells A xs := fun hx => by
  obtain ⟨b, off, e, hb, hc⟩ := h hx
  exact ⟨b, off, e, hp b hb, hc⟩
theorem Row.nil : Row w P size cells A ([] : List α) := fun h => absurd rfl h
theorem Row.at_ (h : Row w P size cells A xs) {k : Nat} (hk : k < xs.length) : ∃ b off, A = some ⟨b, off, none⟩ ∧ P b ∧ ∀ j, j < size → w.cell? ⟨b, off + k * size + j, none⟩ = (cells xs[k])[j]? := by
  obtain ⟨b, off, e, hb, hc⟩ := h (fun e => by subst e; simp at hk)
  exact ⟨b, off, e, hb, hc k _ (List.getElem?_eq_getElem hk)⟩
/-- below the heap's end, where the world has grown -/
theorem Row.grow (h : Row w (Lo w.heap.size) size cells A xs) (hb : Below w.heap.size w w') : Row w' (Lo w'.heap.size) size cells A xs :=
  (h.stay (stay_below hb fun _ h => h)).more fun _ hb' => Nat.lt_of_lt_of_le hb' hb.size
end

end Go.Proofs.YtdlebcijgdkfjaaGreatDoor

/-
  Waves in memory, and the source that reads one: what its box holds.
-/
namespace Go.Proofs.YtdlebcijgdkfjaaGreatDoor
open Go.RowKit

structure Chg where
  time : Int
  val : ByteArray
def cChg (c : Chg) : List Value := [.int .i64 c.time, .string c.val]
structure Sgn where
  kind : Int
  width : Int
  CA : Option Addr
  cc : Nat
  chs : List Chg
def cSgn (s : Sgn) : List Value := [.int .i64 s.kind, .int .i64 s.width, .slice s.CA s.chs.length s.cc]
/-- a list of signals with their changes -/
structure SigsAt (w : World) (P : Nat → Prop) (A : Option Addr) (l : List Sgn) : Prop where
  row : Row w P 3 cSgn A l
  each : ∀ s ∈ l, Row w P 2 cChg s.CA s.chs
theorem SigsAt.stay {w w' : World} {P : Nat → Prop} {A : Option Addr} {l : List Sgn} (h : SigsAt w P A l) (hs : Stay P w w') : SigsAt w' P A l := ⟨h.row.stay hs, fun s hm => (h.each s hm).stay hs⟩
theorem SigsAt.more {w : World} {P P' : Nat → Prop} {A : Option Addr} {l : List Sgn} (h : SigsAt w P A l) (hp : ∀ b, P b → P' b) : SigsAt w P' A l := ⟨h.row.more hp, fun s hm => (h.each s hm).more hp⟩
/-- a wave -/
structure Wv where
  A : Option Addr
  cA : Nat
  sigs : List Sgn
  G : Option Addr
  gn : Nat
  cG : Nat
  fin : Int
def cWv (v : Wv) : List Value := [.slice v.A v.sigs.length v.cA, .slice v.G v.gn v.cG, .int .i64 v.fin]
def memO (v : Wv) (L c : Int) : Obj := .cells #[.slice v.A v.sigs.length v.cA, .slice v.G v.gn v.cG, .int .i64 v.fin, .int .i64 L, .int .i64 c] 50 (0, 0)
/-- the source: its box M, the wave below, its limit, the calls so far -/
structure SourceAt (w : World) (M : Nat) (v : Wv) (L c : Int) : Prop where
  box : w.heap[M]? = some (memO v L c)
  sig : SigsAt w (Lo M) v.A v.sigs
def srcV (M : Nat) : Value := .iface 38 (.pointer (some ⟨M, 0, none⟩))
section
variable {w w' : World} {M : Nat} {v : Wv} {L c : Int}
theorem SourceAt.lt (h : SourceAt w M v L c) : M < w.heap.size := box_lt h.box
theorem SourceAt.cells (h : SourceAt w M v L c) : w.cell? ⟨M, 0, none⟩ = some (.slice v.A v.sigs.length v.cA) ∧ w.cell? ⟨M, 1, none⟩ = some (.slice v.G v.gn v.cG) ∧ w.cell? ⟨M, 2, none⟩ = some (.int .i64 v.fin) ∧ w.cell? ⟨M, 3, none⟩ = some (.int .i64 L) ∧ w.cell? ⟨M, 4, none⟩ = some (.int .i64 c) ∧ w.frozen? ⟨M, 4, none⟩ = false := by
  have hb := h.box
  unfold memO at hb
  exact ⟨by rw [cell_of_row w M _ _ _ (0, 0) hb]; rfl, by rw [cell_of_row w M _ _ _ (0, 0) hb]; rfl, by rw [cell_of_row w M _ _ _ (0, 0) hb]; rfl, by rw [cell_of_row w M _ _ _ (0, 0) hb]; rfl, by rw [cell_of_row w M _ _ _ (0, 0) hb]; rfl, by simp [World.frozen?, hb]⟩
theorem SourceAt.keep (h : SourceAt w M v L c) (hk : ∀ b, b ≤ M → w'.heap[b]? = w.heap[b]?) : SourceAt w' M v L c :=
  ⟨(hk M (Nat.le_refl _)).trans h.box, h.sig.stay fun b hb => hk b (Nat.le_of_lt hb)⟩
theorem SourceAt.below (h : SourceAt w M v L c) (hb : Below w.heap.size w w') : SourceAt w' M v L c := h.keep fun b hl => hb.block b (Nat.lt_of_le_of_lt hl h.lt)
theorem SourceAt.but (h : SourceAt w M v L c) {x : Nat} (hb : But w.heap.size (some x) w w') (hx : M < x) : SourceAt w' M v L c := h.keep fun b hl => hb.block b (Nat.lt_of_le_of_lt hl h.lt) (fun e => by injection e with e; omega)
theorem But.drawn {n : Nat} {x : Option Nat} {a w : World} (h : But n x a w) (q : Nat) : But n x a (w.drewN q) := ⟨h.os, h.tape, h.output, h.size, h.block⟩
theorem but_cell {w : World} {M j : Nat} {u : Value} {n : Nat} : But n (some M) w (w.setCell ⟨M, j, none⟩ u) :=
  ⟨rfl, rfl, rfl, by simp [World.setCell], fun b _ hx => by
    simp [World.setCell, Array.getElem?_modify]
    intro e; subst e; exact absurd rfl hx⟩
/-- a call counted -/
theorem SourceAt.count (h : SourceAt w M v L c) (c' : Int) : SourceAt (w.setCell ⟨M, 4, none⟩ (.int .i64 c')) M v L c' := by
  refine ⟨?_, h.sig.stay fun b hb => ?_⟩
  · have hb := h.box
    unfold memO at hb
    simp [World.setCell, Array.getElem?_modify, hb, memO]
  · have : b ≠ M := fun e => by subst e; exact Nat.lt_irrefl _ hb
    simp [World.setCell, Array.getElem?_modify]
    intro e; exact absurd e.symm this
end
/-- the world behind calls of the source: only the count has changed, and new blocks -/
def SrcTo (w : World) (M : Nat) (v : Wv) (L c : Int) (w' : World) : Prop := SourceAt w' M v L c ∧ But w.heap.size (some M) w w'
theorem SrcTo.trans {w w' w'' : World} {M : Nat} {v : Wv} {L c d : Int} (h : SrcTo w M v L c w') (h' : SrcTo w' M v L d w'') : SrcTo w M v L d w'' := ⟨h'.1, h.2.trans (h'.2.mono h.2.size)⟩
theorem SrcTo.below {w w' w'' : World} {M : Nat} {v : Wv} {L c : Int} (h : SrcTo w M v L c w') (hb : Below w'.heap.size w' w'') : SrcTo w M v L c w'' := ⟨h.1.below hb, h.2.trans ((But.of hb).mono h.2.size)⟩
theorem SrcTo.start {w : World} {M : Nat} {v : Wv} {L c : Int} (h : SourceAt w M v L c) {w' : World} (hb : Below w.heap.size w w') : SrcTo w M v L c w' := ⟨h.below hb, But.of hb⟩

end Go.Proofs.YtdlebcijgdkfjaaGreatDoor
