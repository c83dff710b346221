/-
  Several texts in one: CmpAll, TruP. Each says at its head what it holds.
-/
import Derived.Test.YtdlebcijgdkfjaaGreatDoorCR14
import Derived.Test.YtdlebcijgdkfjaaGreatDoorCR18
import Derived.Test.YtdlebcijgdkfjaaGreatDoorCR22
import Derived.Test.YtdlebcijgdkfjaaGreatDoorCR3

/-
  condition.Compare, for any kind, operator and strings.
-/
namespace Go.Proofs.YtdlebcijgdkfjaaGreatDoor
open Go.RowKit

def eqS (a b : ByteArray) : Bool := a.toList == b.toList
def cmpBits (op : Int) (a b : ByteArray) : Bool × Bool :=
  if bitsB a.data.toList && bitsB b.data.toList && decide (a.size = b.size) then
    if op = 19 then ((eqP a.data.toList b.data.toList).1 && (eqP a.data.toList b.data.toList).2, (eqP a.data.toList b.data.toList).2)
    else if op = 20 then (!(eqP a.data.toList b.data.toList).1 && (eqP a.data.toList b.data.toList).2, (eqP a.data.toList b.data.toList).2)
    else if op = 21 then (eqS a b, true) else if op = 22 then (!eqS a b, true)
    else if knownB a.data.toList && knownB b.data.toList then (relC op (lexC a.data.toList b.data.toList), true) else (false, false)
  else (false, false)
def cmpReal (op : Int) (a b : ByteArray) : Bool × Bool :=
  if valB a && valB b then
    if op = 19 ∨ op = 21 then (eqS a b, true) else if op = 20 ∨ op = 22 then (!eqS a b, true)
    else (relC op ((cmpB a b).getD 0), true)
  else (false, false)
def cmpStr (op : Int) (a b : ByteArray) : Bool × Bool := if op = 19 ∨ op = 21 then (eqS a b, true) else if op = 20 ∨ op = 22 then (!eqS a b, true) else (false, false)
/-- the result of a comparison, and whether it is known -/
def cmpA (kind op : Int) (a b : ByteArray) : Bool × Bool :=
  if op < 19 ∨ 26 < op then (false, false) else if kind = 0 then cmpBits op a b else if kind = 1 then cmpReal op a b else if kind = 2 then cmpStr op a b else (false, false)
def CmpEnd (p : Bool × Bool) (w : World) (e : Ending) (w' : World) : Prop := e = .returned (.tuple #[.bool p.1, .bool p.2]) ∧ Below w.heap.size w w'
theorem strcmp_any (a b : ByteArray) (w : World) : Calls Tryz.prog 38 #[.string a, .string b] w fun e w' => e = .returned (.int .i64 (lexC a.data.toList b.data.toList)) ∧ w = w' := by
  refine (Tryz.strings_Compare a b w).mono ?_
  rintro e w' ⟨rfl, rfl⟩
  exact ⟨by rw [cmp_lex], rfl⟩
theorem op_cases {op : Int} (h1 : 19 ≤ op) (h2 : op ≤ 26) : op = 19 ∨ op = 20 ∨ op = 21 ∨ op = 22 ∨ 23 ≤ op := by omega

set_option maxRecDepth 100000 in
theorem ccmp_out (kind op : Int) (a b : ByteArray) (w : World) (h : op < 19 ∨ 26 < op) : Calls Tryz.prog 10 #[.int .i64 kind, .int .i64 op, .string a, .string b] w (CmpEnd (false, false) w) := by
  rcases h with h | h
  · go_enter Tryz.func10, Tryz.ntmps10
    go_wp2_with fail
    go_ret2
    exact ⟨rfl, Below.refl _ _⟩
  · have h' : ¬ op < 19 := by omega
    go_enter Tryz.func10, Tryz.ntmps10
    go_wp2_with fail
    go_ret2
    exact ⟨rfl, Below.refl _ _⟩
set_option maxRecDepth 100000 in
theorem ccmp_kind (kind op : Int) (a b : ByteArray) (w : World) (h1 : 19 ≤ op) (h2 : op ≤ 26) (k0 : kind ≠ 0) (k1 : kind ≠ 1) (k2 : kind ≠ 2) : Calls Tryz.prog 10 #[.int .i64 kind, .int .i64 op, .string a, .string b] w (CmpEnd (false, false) w) := by
  have t0 : (kind == 0) = false := beq_eq_false_iff_ne.2 k0
  have t1 : (kind == 1) = false := beq_eq_false_iff_ne.2 k1
  have t2 : (kind == 2) = false := beq_eq_false_iff_ne.2 k2
  clear k0 k1 k2
  go_enter Tryz.func10, Tryz.ntmps10
  go_wp2_with fail
  go_ret2
  exact ⟨rfl, Below.refl _ _⟩
set_option maxRecDepth 100000 in
theorem ccmp_str (op : Int) (a b : ByteArray) (w : World) (h1 : 19 ≤ op) (h2 : op ≤ 26) : Calls Tryz.prog 10 #[.int .i64 2, .int .i64 op, .string a, .string b] w (CmpEnd (cmpStr op a b) w) := by
  rcases op_cases h1 h2 with rfl | rfl | rfl | rfl | h3
  case' inr.inr.inr.inr =>
    have HV := hide (show cmpStr op a b = (false, false) by unfold cmpStr; rw [if_neg (by omega), if_neg (by omega)])
    go_enter Tryz.func10, Tryz.ntmps10
    go_wp2_with fail
    go_ret2
    exact ⟨by rw [HV.out]; rfl, Below.refl _ _⟩
  all_goals
    cases hE : (a.toList == b.toList)
    all_goals
      have HE := hide (show eqS a b = _ from hE)
      go_enter Tryz.func10, Tryz.ntmps10
      go_wp2_with fail
      go_ret2
      exact ⟨by unfold cmpStr; rw [HE.out]; rfl, Below.refl _ _⟩

set_option maxRecDepth 100000 in
set_option maxHeartbeats 1000000 in
theorem ccmp_real (op : Int) (a b : ByteArray) (w : World) (hT : Tab w) (h1 : 19 ≤ op) (h2 : op ≤ 26) : Calls Tryz.prog 10 #[.int .i64 1, .int .i64 op, .string a, .string b] w (CmpEnd (cmpReal op a b) w) := by
  have HT := hide hT
  clear hT
  cases hA : valB a with
  | false =>
    have HA := hide hA
    clear hA
    have HV := hide (show cmpReal op a b = (false, false) by unfold cmpReal; rw [HA.out]; rfl)
    go_enter Tryz.func10, Tryz.ntmps10
    go_wp2_with fail
    refine (valid_dec a _ HT.out).mono ?_
    rw [HA.out]
    rintro e w1 ⟨rfl, b1⟩
    go_wp2_with fail
    go_ret2
    exact ⟨by rw [HV.out]; rfl, b1⟩
  | true =>
    have HA := hide hA
    clear hA
    cases hB : valB b with
    | false =>
      have HB := hide hB
      clear hB
      have HV := hide (show cmpReal op a b = (false, false) by unfold cmpReal; rw [HA.out, HB.out]; rfl)
      go_enter Tryz.func10, Tryz.ntmps10
      go_wp2_with fail
      refine (valid_dec a _ HT.out).mono ?_
      rw [HA.out]
      rintro e w1 ⟨rfl, b1⟩
      have B1 := hide b1
      clear b1
      go_wp2_with fail
      refine (valid_dec b _ (HT.out.below B1.out)).mono ?_
      rw [HB.out]
      rintro e w2 ⟨rfl, b2⟩
      go_wp2_with fail
      go_ret2
      exact ⟨by rw [HV.out]; rfl, bstep B1.out b2⟩
    | true =>
      have HB := hide hB
      clear hB
      rcases op_cases h1 h2 with rfl | rfl | rfl | rfl | h3
      case' inr.inr.inr.inr =>
        have HV := hide (show cmpReal op a b = (relC op ((cmpB a b).getD 0), true) by unfold cmpReal; rw [HA.out, HB.out, if_pos (by rfl), if_neg (by omega), if_neg (by omega)])
        have t1 : (op == 19) = false := beq_eq_false_iff_ne.2 (by omega)
        have t2 : (op == 20) = false := beq_eq_false_iff_ne.2 (by omega)
        have t3 : (op == 21) = false := beq_eq_false_iff_ne.2 (by omega)
        have t4 : (op == 22) = false := beq_eq_false_iff_ne.2 (by omega)
        go_enter Tryz.func10, Tryz.ntmps10
        go_wp2_with fail
        refine (valid_dec a _ HT.out).mono ?_
        rw [HA.out]
        rintro e w1 ⟨rfl, b1⟩
        have B1 := hide b1
        clear b1
        go_wp2_with fail
        refine (valid_dec b _ (HT.out.below B1.out)).mono ?_
        rw [HB.out]
        rintro e w2 ⟨rfl, b2⟩
        have B2 := hide (bstep B1.out b2)
        clear b2
        go_wp2_with fail
        refine (compare_dec a b _ (HT.out.below B2.out)).mono ?_
        rintro e w3 ⟨rfl, b3⟩
        have B3 := hide (bstep B2.out b3)
        clear b3
        go_wp2_with fail
        refine (crel_any op _ _).mono ?_
        rintro e w4 ⟨rfl, rfl⟩
        go_wp2_with fail
        go_ret2
        exact ⟨by rw [HV.out]; rfl, B3.out⟩
      all_goals
        cases hE : (a.toList == b.toList)
        all_goals
          have HE := hide (show eqS a b = _ from hE)
          go_enter Tryz.func10, Tryz.ntmps10
          go_wp2_with fail
          refine (valid_dec a _ HT.out).mono ?_
          rw [HA.out]
          rintro e w1 ⟨rfl, b1⟩
          have B1 := hide b1
          clear b1
          go_wp2_with fail
          refine (valid_dec b _ (HT.out.below B1.out)).mono ?_
          rw [HB.out]
          rintro e w2 ⟨rfl, b2⟩
          have B2 := hide (bstep B1.out b2)
          clear b2
          go_wp2_with fail
          go_ret2
          exact ⟨by unfold cmpReal; rw [HE.out, HA.out, HB.out]; rfl, B2.out⟩

set_option maxRecDepth 100000 in
set_option maxHeartbeats 2000000 in
theorem ccmp_bits (op : Int) (a b : ByteArray) (w : World) (h1 : 19 ≤ op) (h2 : op ≤ 26) (la : a.size ≤ 1000) (lb : b.size ≤ 1000) : Calls Tryz.prog 10 #[.int .i64 0, .int .i64 op, .string a, .string b] w (CmpEnd (cmpBits op a b) w) := by
  cases hA : bitsB a.data.toList with
  | false =>
    have HA := hide hA
    clear hA
    have HV := hide (show cmpBits op a b = (false, false) by unfold cmpBits; rw [HA.out]; rfl)
    go_enter Tryz.func10, Tryz.ntmps10
    go_wp2_with fail
    refine (isBits_any a _ la).mono ?_
    rw [HA.out]
    rintro e w1 ⟨rfl, b1⟩
    go_wp2_with fail
    go_ret2
    exact ⟨by rw [HV.out]; rfl, b1⟩
  | true =>
    have HA := hide hA
    clear hA
    cases hB : bitsB b.data.toList with
    | false =>
      have HB := hide hB
      clear hB
      have HV := hide (show cmpBits op a b = (false, false) by unfold cmpBits; rw [HA.out, HB.out]; rfl)
      go_enter Tryz.func10, Tryz.ntmps10
      go_wp2_with fail
      refine (isBits_any a _ la).mono ?_
      rw [HA.out]
      rintro e w1 ⟨rfl, b1⟩
      have B1 := hide b1
      clear b1
      go_wp2_with fail
      refine (isBits_any b _ lb).mono ?_
      rw [HB.out]
      rintro e w2 ⟨rfl, b2⟩
      go_wp2_with fail
      go_ret2
      exact ⟨by rw [HV.out]; rfl, bstep B1.out b2⟩
    | true =>
      have HB := hide hB
      clear hB
      by_cases hs : a.size = b.size
      · have HS := hide hs
        have HG := hide (show (bitsB a.data.toList && bitsB b.data.toList && decide (a.size = b.size)) = true by rw [HA.out, HB.out, hs]; simp)
        have tne : ((a.size : Int) != (b.size : Int)) = false := by rw [hs]; simp
        clear hs
        rcases op_cases h1 h2 with rfl | rfl | rfl | rfl | h3
        · obtain ⟨x, y, hxy⟩ : ∃ x y, eqP a.data.toList b.data.toList = (x, y) := ⟨_, _, rfl⟩
          have HE := hide hxy
          have HV := hide (show cmpBits 19 a b = (x && y, y) by unfold cmpBits; rw [HG.out, HE.out]; rfl)
          clear hxy
          cases x <;> cases y
          all_goals
            go_enter Tryz.func10, Tryz.ntmps10
            go_wp2_with fail
            refine (isBits_any a _ la).mono ?_
            rw [HA.out]
            rintro e w1 ⟨rfl, b1⟩
            have B1 := hide b1
            clear b1
            go_wp2_with fail
            refine (isBits_any b _ lb).mono ?_
            rw [HB.out]
            rintro e w2 ⟨rfl, b2⟩
            have B2 := hide (bstep B1.out b2)
            clear b2
            go_wp2_with fail
            refine (equality_any a b _ HS.out la).mono ?_
            rw [HE.out]
            rintro e w3 ⟨rfl, b3⟩
            go_wp2_with fail
            go_ret2
            exact ⟨by rw [HV.out]; rfl, bstep B2.out b3⟩
        · obtain ⟨x, y, hxy⟩ : ∃ x y, eqP a.data.toList b.data.toList = (x, y) := ⟨_, _, rfl⟩
          have HE := hide hxy
          have HV := hide (show cmpBits 20 a b = (!x && y, y) by unfold cmpBits; rw [HG.out, HE.out]; rfl)
          clear hxy
          cases x <;> cases y
          all_goals
            go_enter Tryz.func10, Tryz.ntmps10
            go_wp2_with fail
            refine (isBits_any a _ la).mono ?_
            rw [HA.out]
            rintro e w1 ⟨rfl, b1⟩
            have B1 := hide b1
            clear b1
            go_wp2_with fail
            refine (isBits_any b _ lb).mono ?_
            rw [HB.out]
            rintro e w2 ⟨rfl, b2⟩
            have B2 := hide (bstep B1.out b2)
            clear b2
            go_wp2_with fail
            refine (equality_any a b _ HS.out la).mono ?_
            rw [HE.out]
            rintro e w3 ⟨rfl, b3⟩
            go_wp2_with fail
            go_ret2
            exact ⟨by rw [HV.out]; rfl, bstep B2.out b3⟩
        case' inr.inr.inr.inr =>
          have t1 : (op == 19) = false := beq_eq_false_iff_ne.2 (by omega)
          have t2 : (op == 20) = false := beq_eq_false_iff_ne.2 (by omega)
          have t3 : (op == 21) = false := beq_eq_false_iff_ne.2 (by omega)
          have t4 : (op == 22) = false := beq_eq_false_iff_ne.2 (by omega)
          have HV := hide (show cmpBits op a b = if knownB a.data.toList && knownB b.data.toList then (relC op (lexC a.data.toList b.data.toList), true) else (false, false) by unfold cmpBits; rw [HG.out, if_pos rfl, if_neg (by omega), if_neg (by omega), if_neg (by omega), if_neg (by omega)])
          go_enter Tryz.func10, Tryz.ntmps10
          go_wp2_with fail
          refine (isBits_any a _ la).mono ?_
          rw [HA.out]
          rintro e w1 ⟨rfl, b1⟩
          have B1 := hide b1
          clear b1
          go_wp2_with fail
          refine (isBits_any b _ lb).mono ?_
          rw [HB.out]
          rintro e w2 ⟨rfl, b2⟩
          have B2 := hide (bstep B1.out b2)
          clear b2
          cases hk : knownB a.data.toList with
          | false =>
            have HK := hide hk
            clear hk
            rw [HK.out] at HV
            go_wp2_with fail
            refine (known_any a _ la).mono ?_
            rw [HK.out]
            rintro e w3 ⟨rfl, b3⟩
            go_wp2_with fail
            go_ret2
            exact ⟨by rw [HV.out]; rfl, bstep B2.out b3⟩
          | true =>
            have HK := hide hk
            clear hk
            cases hk2 : knownB b.data.toList with
            | false =>
              have HK2 := hide hk2
              clear hk2
              rw [HK.out, HK2.out] at HV
              go_wp2_with fail
              refine (known_any a _ la).mono ?_
              rw [HK.out]
              rintro e w3 ⟨rfl, b3⟩
              have B3 := hide (bstep B2.out b3)
              clear b3
              go_wp2_with fail
              refine (known_any b _ lb).mono ?_
              rw [HK2.out]
              rintro e w4 ⟨rfl, b4⟩
              go_wp2_with fail
              go_ret2
              exact ⟨by rw [HV.out]; rfl, bstep B3.out b4⟩
            | true =>
              have HK2 := hide hk2
              clear hk2
              rw [HK.out, HK2.out] at HV
              go_wp2_with fail
              refine (known_any a _ la).mono ?_
              rw [HK.out]
              rintro e w3 ⟨rfl, b3⟩
              have B3 := hide (bstep B2.out b3)
              clear b3
              go_wp2_with fail
              refine (known_any b _ lb).mono ?_
              rw [HK2.out]
              rintro e w4 ⟨rfl, b4⟩
              have B4 := hide (bstep B3.out b4)
              clear b4
              go_wp2_with fail
              refine (strcmp_any a b _).mono ?_
              rintro e w5 ⟨rfl, rfl⟩
              go_wp2_with fail
              refine (crel_any op _ _).mono ?_
              rintro e w6 ⟨rfl, rfl⟩
              go_wp2_with fail
              go_ret2
              exact ⟨by rw [HV.out]; rfl, B4.out⟩
        all_goals
          cases hE : (a.toList == b.toList)
          all_goals
            have HE := hide (show eqS a b = _ from hE)
            go_enter Tryz.func10, Tryz.ntmps10
            go_wp2_with fail
            refine (isBits_any a _ la).mono ?_
            rw [HA.out]
            rintro e w1 ⟨rfl, b1⟩
            have B1 := hide b1
            clear b1
            go_wp2_with fail
            refine (isBits_any b _ lb).mono ?_
            rw [HB.out]
            rintro e w2 ⟨rfl, b2⟩
            go_wp2_with fail
            go_ret2
            exact ⟨by unfold cmpBits; rw [HG.out, HE.out]; rfl, bstep B1.out b2⟩
      · have HV := hide (show cmpBits op a b = (false, false) by unfold cmpBits; rw [HA.out, HB.out, decide_eq_false hs]; rfl)
        have tne : ((a.size : Int) != (b.size : Int)) = true := by rw [bne_iff_ne]; omega
        clear hs
        go_enter Tryz.func10, Tryz.ntmps10
        go_wp2_with fail
        refine (isBits_any a _ la).mono ?_
        rw [HA.out]
        rintro e w1 ⟨rfl, b1⟩
        have B1 := hide b1
        clear b1
        go_wp2_with fail
        refine (isBits_any b _ lb).mono ?_
        rw [HB.out]
        rintro e w2 ⟨rfl, b2⟩
        go_wp2_with fail
        go_ret2
        exact ⟨by rw [HV.out]; rfl, bstep B1.out b2⟩

theorem ccmp_any (kind op : Int) (a b : ByteArray) (w : World) (hT : Tab w) (la : a.size ≤ 1000) (lb : b.size ≤ 1000) : Calls Tryz.prog 10 #[.int .i64 kind, .int .i64 op, .string a, .string b] w (CmpEnd (cmpA kind op a b) w) := by
  unfold cmpA
  by_cases h : op < 19 ∨ 26 < op
  · rw [if_pos h]; exact ccmp_out kind op a b w h
  · rw [if_neg h]
    by_cases k0 : kind = 0
    · rw [if_pos k0]; subst k0; exact ccmp_bits op a b w (by omega) (by omega) la lb
    · rw [if_neg k0]
      by_cases k1 : kind = 1
      · rw [if_pos k1]; subst k1; exact ccmp_real op a b w hT (by omega) (by omega)
      · rw [if_neg k1]
        by_cases k2 : kind = 2
        · rw [if_pos k2]; subst k2; exact ccmp_str op a b w (by omega) (by omega)
        · rw [if_neg k2]; exact ccmp_kind kind op a b w (by omega) (by omega) k0 k1 k2

end Go.Proofs.YtdlebcijgdkfjaaGreatDoor

/-
  What a resolved condition says at one moment, and which trees are resolved conditions. Plain; no program in sight.
-/
namespace Go.Proofs.YtdlebcijgdkfjaaGreatDoor
open Go.RowKit

def bitS (p : Bool × Bool) : ByteArray := if p.2 then (if p.1 then ⟨#[49]⟩ else ⟨#[48]⟩) else ⟨#[120]⟩
def knownS (v : ByteArray) : Bool := knownB v.data.toList
def applyS (k : Int) (l : List ByteArray) : ByteArray := ⟨(applyL k 0 0 (vL2 l)).toArray⟩
def truB (env : Int → ByteArray) (n : Nd) (l : List ByteArray) : ByteArray :=
  if n.kind = 17 then ⟨#[49]⟩ else if n.kind = 18 then ⟨#[48]⟩
  else if 19 ≤ n.kind ∧ n.kind ≤ 26 then (match n.kids with | x :: y :: _ => bitS (cmpA (kindK x) n.kind (valF env x) (valF env y)) | _ => ⟨#[]⟩)
  else if n.kind = 27 then (match n.kids with | x :: _ => bitS (knownS (valF env x), true) | _ => ⟨#[]⟩)
  else if n.kind = 28 then (match l with | x :: _ => applyS 8 [x] | _ => ⟨#[]⟩)
  else if n.kind = 29 then (match l with | x :: y :: _ => applyS 9 [x, y] | _ => ⟨#[]⟩)
  else if n.kind = 30 then (match l with | x :: y :: _ => applyS 10 [x, y] | _ => ⟨#[]⟩)
  else bitS (decide (valF env n = ⟨#[49]⟩), knownS (valF env n))
def truF (env : Int → ByteArray) (n : Nd) : ByteArray := n.fold (truB env)
theorem truF_eq (env : Int → ByteArray) (n : Nd) : truF env n = truB env n (n.kids.map (truF env)) := Nd.fold_eq _ n

/-- one of the three results -/
def Tri3 (v : ByteArray) : Prop := v = ⟨#[49]⟩ ∨ v = ⟨#[48]⟩ ∨ v = ⟨#[120]⟩
theorem bitS_tri (p : Bool × Bool) : Tri3 (bitS p) := by
  obtain ⟨a, b⟩ := p
  cases a <;> cases b
  · exact .inr (.inr rfl)
  · exact .inr (.inl rfl)
  · exact .inr (.inr rfl)
  · exact .inl rfl
theorem not_tri {v : ByteArray} (h : Tri3 v) : Tri3 (applyS 8 [v]) ∧ (applyS 8 [v] = ⟨#[49]⟩ ↔ v = ⟨#[48]⟩) ∧ (applyS 8 [v] = ⟨#[48]⟩ ↔ v = ⟨#[49]⟩) := by
  unfold Tri3
  rcases h with rfl | rfl | rfl <;> decide
theorem and_tri {v u : ByteArray} (h : Tri3 v) (k : Tri3 u) : Tri3 (applyS 9 [v, u]) ∧ (applyS 9 [v, u] = ⟨#[49]⟩ ↔ v = ⟨#[49]⟩ ∧ u = ⟨#[49]⟩) ∧ (applyS 9 [v, u] = ⟨#[48]⟩ ↔ v = ⟨#[48]⟩ ∨ u = ⟨#[48]⟩) := by
  unfold Tri3
  rcases h with rfl | rfl | rfl <;> rcases k with rfl | rfl | rfl <;> decide
theorem or_tri {v u : ByteArray} (h : Tri3 v) (k : Tri3 u) : Tri3 (applyS 10 [v, u]) ∧ (applyS 10 [v, u] = ⟨#[49]⟩ ↔ v = ⟨#[49]⟩ ∨ u = ⟨#[49]⟩) ∧ (applyS 10 [v, u] = ⟨#[48]⟩ ↔ v = ⟨#[48]⟩ ∧ u = ⟨#[48]⟩) := by
  unfold Tri3
  rcases h with rfl | rfl | rfl <;> rcases k with rfl | rfl | rfl <;> decide
theorem tru_tri (env : Int → ByteArray) (n : Nd) : resF n = true → Tri3 (truF env n) := by
  induction n using Nd.ind with
  | h n ih =>
  intro hr
  rw [resF_eq] at hr
  rw [truF_eq]
  unfold resB at hr
  unfold truB
  by_cases k17 : n.kind = 17
  · rw [if_pos k17]; exact .inl rfl
  rw [if_neg k17]
  by_cases k18 : n.kind = 18
  · rw [if_pos k18]; exact .inr (.inl rfl)
  rw [if_neg k18]
  rw [if_neg (by omega)] at hr
  by_cases kc : 19 ≤ n.kind ∧ n.kind ≤ 26
  · rw [if_pos kc] at hr ⊢
    rw [Bool.and_eq_true, beq_iff_eq] at hr
    match h : n.kids, hr with
    | [x, y], _ => exact bitS_tri _
  rw [if_neg kc] at hr ⊢
  by_cases k27 : n.kind = 27
  · rw [if_pos k27] at hr ⊢
    rw [Bool.and_eq_true, beq_iff_eq] at hr
    match h : n.kids, hr with
    | [x], _ => exact bitS_tri _
  rw [if_neg k27] at hr ⊢
  by_cases k28 : n.kind = 28
  · rw [if_pos k28] at hr ⊢
    match h : n.kids, hr, ih with
    | [x], hr, ih => exact (not_tri (ih x (by simp) hr)).1
    | [], hr, _ => cases hr
    | _ :: _ :: _, hr, _ => cases hr
  rw [if_neg k28] at hr ⊢
  by_cases k29 : n.kind = 29
  · rw [if_pos (.inl k29)] at hr
    rw [if_pos k29]
    match h : n.kids, hr, ih with
    | [x, y], hr, ih =>
      have hr : (resF x && resF y) = true := hr
      rw [Bool.and_eq_true] at hr
      exact (and_tri (ih x (by simp) hr.1) (ih y (by simp) hr.2)).1
    | [], hr, _ => cases hr
    | [_], hr, _ => cases hr
    | _ :: _ :: _ :: _, hr, _ => cases hr
  rw [if_neg k29]
  by_cases k30 : n.kind = 30
  · rw [if_pos (.inr k30)] at hr
    rw [if_pos k30]
    match h : n.kids, hr, ih with
    | [x, y], hr, ih =>
      have hr : (resF x && resF y) = true := hr
      rw [Bool.and_eq_true] at hr
      exact (or_tri (ih x (by simp) hr.1) (ih y (by simp) hr.2)).1
    | [], hr, _ => cases hr
    | [_], hr, _ => cases hr
    | _ :: _ :: _ :: _, hr, _ => cases hr
  rw [if_neg k30]
  exact bitS_tri _

end Go.Proofs.YtdlebcijgdkfjaaGreatDoor
