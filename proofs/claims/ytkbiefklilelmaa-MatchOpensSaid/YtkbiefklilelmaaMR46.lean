/-
  Several texts in one: RefFirst. Each says at its head what it holds.
-/
import Derived.Test.YtkbiefklilelmaaMR42
import Derived.Test.YtkbiefklilelmaaMR25

/-
  wavestoreref55.first: the least time at which a final state is reached.
-/
namespace Go.Proofs.Ytkbiefklilelmaa
open Go.RowKit

/-- so many states have been looked at, of the next one so many times -/
def VisS (P : Int → Int → Prop) (s : Nat) (l : List Int) (k : Nat) (a b : Int) : Prop := (0 ≤ a ∧ a < (s : Int) ∧ P a b) ∨ (a = (s : Int) ∧ b ∈ l.take k)
def FirRel (fin : List Bool) (P : Int → Int → Prop) (w : World) (v ok i : Value) (wr : World) : Prop :=
  ∃ (s : Nat) (x : Int) (b : Bool), s ≤ fin.length ∧ i = .int .i64 s ∧ v = .int .i64 x ∧ ok = .bool b ∧ LeastB (FinOf fin (VisS P s [] 0)) x b ∧ Below w.heap.size w wr
def FirIn (fin : List Bool) (P : Int → Int → Prop) (s : Nat) (l : List Int) (w : World) (v ok i : Value) (wr : World) : Prop :=
  ∃ (k : Nat) (x : Int) (b : Bool), k ≤ l.length ∧ i = .int .i64 k ∧ v = .int .i64 x ∧ ok = .bool b ∧ LeastB (FinOf fin (VisS P s l k)) x b ∧ Below w.heap.size w wr
theorem LeastB.congr {S S' : Int → Prop} {v : Int} {b : Bool} (h : LeastB S v b) (hs : ∀ t, S t ↔ S' t) : LeastB S' v b := ⟨fun e => (h.1 e).congr hs, fun e t ht => h.2 e t ((hs t).2 ht)⟩
theorem VisS.next {P : Int → Int → Prop} {s k : Nat} {l : List Int} {u : Int} (hk : l[k]? = some u) (a b : Int) : VisS P s l (k + 1) a b ↔ VisS P s l k a b ∨ (a = (s : Int) ∧ b = u) := by
  obtain ⟨hl, rfl⟩ := List.getElem?_eq_some_iff.1 hk
  have et : l.take (k + 1) = l.take k ++ [l[k]] := by simp
  unfold VisS
  rw [et, List.mem_append, List.mem_singleton]
  constructor
  · rintro (h | ⟨h1, h2 | h2⟩)
    · exact .inl (.inl h)
    · exact .inl (.inr ⟨h1, h2⟩)
    · exact .inr ⟨h1, h2⟩
  · rintro ((h | ⟨h1, h2⟩) | ⟨h1, h2⟩)
    · exact .inl h
    · exact .inr ⟨h1, .inl h2⟩
    · exact .inr ⟨h1, .inr h2⟩
theorem VisS.row {P : Int → Int → Prop} {s : Nat} {l : List Int} (hl : ∀ t, t ∈ l ↔ P (s : Int) t) (a b : Int) : VisS P s l l.length a b ↔ VisS P (s + 1) [] 0 a b := by
  unfold VisS
  rw [List.take_length]
  constructor
  · rintro (⟨h0, h1, h2⟩ | ⟨rfl, h2⟩)
    · exact .inl ⟨h0, by omega, h2⟩
    · exact .inl ⟨by omega, by omega, (hl b).1 h2⟩
  · rintro (⟨h0, h1, h2⟩ | ⟨_, h2⟩)
    · by_cases e : a = (s : Int)
      · subst e; exact .inr ⟨rfl, (hl b).2 h2⟩
      · exact .inl ⟨h0, by omega, h2⟩
    · simp at h2
theorem VisS.off {P : Int → Int → Prop} {s k : Nat} {l : List Int} {fin : List Bool} (hf : fin.getD s false = false) (t : Int) : FinOf fin (VisS P s l k) t ↔ FinOf fin (VisS P (s + 1) [] 0) t := by
  unfold FinOf VisS
  constructor
  · rintro ⟨a, ⟨h0, h1, h2⟩ | ⟨rfl, _⟩, h3⟩
    · exact ⟨a, .inl ⟨h0, by omega, h2⟩, h3⟩
    · rw [Int.toNat_natCast, hf] at h3
      cases h3
  · rintro ⟨a, ⟨h0, h1, h2⟩ | ⟨_, h2⟩, h3⟩
    · by_cases e : a = (s : Int)
      · subst e
        rw [Int.toNat_natCast, hf] at h3
        cases h3
      · exact ⟨a, .inl ⟨h0, by omega, h2⟩, h3⟩
    · simp at h2
theorem VisS.none {P : Int → Int → Prop} {fin : List Bool} (t : Int) : ¬ FinOf fin (VisS P 0 [] 0) t := by
  rintro ⟨a, h | h, _⟩
  · omega
  · simp at h
theorem VisS.zero {P : Int → Int → Prop} {s : Nat} {l : List Int} (a b : Int) : VisS P s [] 0 a b ↔ VisS P s l 0 a b := by unfold VisS; simp

set_option maxRecDepth 100000 in
set_option maxHeartbeats 4000000 in
theorem rfirst_any (a : Aut) (B Bo : Nat) (os : List SlI) (P : Int → Int → Prop) (w : World) (ha : AutAt w (Lo w.heap.size) a) (hfl : a.fin.length ≤ 33) (hn : os.length = a.fin.length) (hr : RcAt B w Bo os) (hp : RcP P os)
    (hP : ∀ s t, P s t → (0 ≤ s ∧ s < a.fin.length) ∧ 0 ≤ t ∧ t ≤ 1099511627776) :
    Calls Try.prog 62 #[.agg (encA a).toArray, .slice (some ⟨Bo, 0, none⟩) a.fin.length a.fin.length] w (EndsPost a.fin P w) := by
  obtain ⟨W0, hW0⟩ : ∃ W0, w.alloc (.cells (encA a).toArray 50) = W0 := ⟨_, rfl⟩
  have g0 := new_at hW0
  have hb0 : Below w.heap.size w W0 := by rw [← hW0]; exact (Below.refl _ _).alloc (Nat.le_refl _) _
  have HB0 := hide hb0
  have HFI := hide ((ha.grow hb0).fin)
  have HRC := hide (hr.below hb0)
  have HRP := hide hp
  have HP := hide hP
  have HN := hide hn
  obtain ⟨AE, nE, cE, AC, nC, cC, AF, cF, fin, AX, cX, edges⟩ := a
  dsimp only at hfl HN HFI HP
  have g0' : W0.heap[w.heap.size]? = some (.cells #[.slice AE nE cE, .slice AC nC cC, .slice AF fin.length cF, .slice AX edges.length cX] 50 (0, 0)) := g0
  have hW0' : w.alloc (.cells #[.slice AE nE cE, .slice AC nC cC, .slice AF fin.length cF, .slice AX edges.length cX] 50) = W0 := hW0
  have HG0 := hide g0'
  have HW0 := hide hW0'
  show Calls _ _ #[.agg #[.slice AE nE cE, .slice AC nC cC, .slice AF fin.length cF, .slice AX edges.length cX], .slice (some ⟨Bo, 0, none⟩) fin.length fin.length] w _
  clear g0 g0' hW0 hW0' hb0 ha hr hp hP hn
  go_enter Try.func62, Try.ntmps62
  go_upto_region 1 with (fail)
  rw [HW0.out]
  go_wp2_with fail
  go_loopw [6, 7, 8] (fun v ok i wr => FirRel fin P W0 v ok i wr) (fun _ _ i _ => fin.length - (intOf i).toNat)
  case atStart => exact ⟨0, 0, false, Nat.zero_le _, rfl, rfl, rfl, ⟨(fun e => by cases e), fun _ => VisS.none⟩, Below.refl _ _⟩
  case round =>
    obtain ⟨wr1, rfl⟩ : ∃ w2 : World, w2 = wr := ⟨_, rfl⟩
    obtain ⟨s, x, b, hs, rfl, rfl, rfl, hlb, hbr⟩ := hrel
    have HLB := hide hlb
    have HBR := hide hbr
    clear hlb hbr
    by_cases hlt : s < fin.length
    · have hos : os[s]? = some (os[s]'(by rw [HN.out]; exact hlt)) := List.getElem?_eq_getElem _
      generalize (os[s]'(by rw [HN.out]; exact hlt)) = o at hos
      have HO := hide hos
      have hlen := HRP.out.len (fun s t h => (HP.out s t h).2) hos
      obtain ⟨oA, oc, l⟩ := o
      dsimp only at hlen
      have HL := hide (HRP.out.mem s _ hos)
      dsimp only at HL
      obtain ⟨bf, off, rfl, hbf, ef⟩ := HFI.out.bool_at hlt
      have HEF := hide ef
      have HFD := hide (show fin.getD s false = fin[s] from by rw [List.getD_eq_getElem?_getD, List.getElem?_eq_getElem hlt]; rfl)
      have HFB := hide hbf
      generalize fin[s] = fb at *
      clear hos ef hbf
      go_wp2_with fail
      go_loopw [6, 7, 9] (fun v ok i wr => FirIn fin P s l W0 v ok i wr) (fun _ _ i _ => l.length - (intOf i).toNat)
      case atStart => exact ⟨0, x, b, Nat.zero_le _, rfl, rfl, rfl, HLB.out.congr (fun t => ⟨fun ⟨a, h, h2⟩ => ⟨a, (VisS.zero a t).1 h, h2⟩, fun ⟨a, h, h2⟩ => ⟨a, (VisS.zero a t).2 h, h2⟩⟩), HBR.out⟩
      case round =>
        obtain ⟨wr2, rfl⟩ : ∃ w2 : World, w2 = wr := ⟨_, rfl⟩
        obtain ⟨k, x2, b2, hk, rfl, rfl, rfl, hlb, hbr⟩ := hrel
        have HLB2 := hide hlb
        have HBR2 := hide hbr
        have c0 := (HRC.out.below hbr).cell HO.out
        dsimp only at c0
        have y2 := (box4 ((hbr.block _ (box_lt HG0.out)).trans HG0.out)).2.2.1
        have ef := (hbr.cell (p := ⟨bf, off + s, none⟩) HFB.out).trans HEF.out
        have hiat := (HRC.out.below hbr).ints HO.out
        dsimp only at hiat
        have HIA := hide hiat
        clear hlb hbr hiat
        by_cases hkl : k < l.length
        · cases fb with
          | false =>
            have HN := hide (HLB2.out.congr fun t => VisS.off HFD.out t)
            go_wp2_with fail
            exact ⟨⟨s + 1, x2, b2, hlt, by go_num, rfl, rfl, HN.out, HBR2.out⟩, by simp [intOf]; omega⟩
          | true =>
            obtain ⟨bl, ol, rfl, hbl, e1⟩ := HIA.out.at_ hkl
            have hk' : l[k]? = some l[k] := List.getElem?_eq_getElem hkl
            have HVN := hide (fun a b => VisS.next (P := P) (s := s) hk' a b)
            have HFT := hide (show fin.getD ((s : Nat) : Int).toNat false = true from by rw [Int.toNat_natCast]; exact HFD.out)
            clear hk'
            generalize l[k] = q at *
            cases b2 with
            | false =>
              have HN := hide (HLB2.out.take HVN.out HFT.out (.inl rfl))
              go_wp2_with fail
              exact ⟨⟨k + 1, q, true, hkl, by go_num, rfl, rfl, HN.out, HBR2.out⟩, by simp [intOf]; omega⟩
            | true =>
              by_cases hq : q < x2
              · have T1 : decide (q < x2) = true := decide_eq_true hq
                have HN := hide (HLB2.out.take HVN.out HFT.out (.inr hq))
                clear hq
                go_wp2_with fail
                exact ⟨⟨k + 1, q, true, hkl, by go_num, rfl, rfl, HN.out, HBR2.out⟩, by simp [intOf]; omega⟩
              · have T1 : decide (q < x2) = false := decide_eq_false hq
                have HN := hide (HLB2.out.skip HVN.out (.inr ⟨rfl, by omega⟩))
                clear hq
                go_wp2_with fail
                exact ⟨⟨k + 1, x2, true, hkl, by go_num, rfl, rfl, HN.out, HBR2.out⟩, by simp [intOf]; omega⟩
        · have hke : k = l.length := by omega
          subst hke
          have HN := hide (LeastB.congr (S' := FinOf fin (VisS P (s + 1) [] 0)) HLB2.out fun t => ⟨fun ⟨a, h, h2⟩ => ⟨a, (VisS.row HL.out a t).1 h, h2⟩, fun ⟨a, h, h2⟩ => ⟨a, (VisS.row HL.out a t).2 h, h2⟩⟩)
          go_wp2_with fail
          exact ⟨⟨s + 1, x2, b2, hlt, by go_num, rfl, rfl, HN.out, HBR2.out⟩, by simp [intOf]; omega⟩
    · have hse : s = fin.length := by omega
      subst hse
      have HE := hide (show LeastB (FinOf fin P) x b from HLB.out.congr fun t => ⟨fun ⟨a, h, h2⟩ => ⟨a, h.elim (fun h => h.2.2) (fun h => by simp at h), h2⟩, fun ⟨a, h, h2⟩ => ⟨a, .inl ⟨(HP.out a t h).1.1, (HP.out a t h).1.2, h⟩, h2⟩⟩)
      go_wp2_with fail
      go_ret2
      exact ⟨x, b, rfl, HE.out, bstep HB0.out HBR.out⟩

end Go.Proofs.Ytkbiefklilelmaa
