/-
  sort.Slice as Clip calls it: a row of intervals of the call's own becomes a permutation of itself, sorted by From.
-/
import Derived.Test.YtdlebcijgdkfjaaGreatDoorBase
import Derived.Test.YtdlebcijgdkfjaaGreatDoorShelf
import Derived.Lib.OwnBridge
namespace Go.Proofs.YtdlebcijgdkfjaaGreatDoor
open Go.Shelf Go.RowKit Go.Lib Go.Sort Go.Joins

theorem encIvs_get (d : List Iv) : ∀ t, t < d.length * 2 → (encIvs d)[t]? = some ((encIv d[t / 2]!)[t % 2]!) := by
  induction d with
  | nil => intro t ht; simp at ht
  | cons x r ih =>
    intro t ht
    match t, ht with
    | 0, _ => simp [encIvs, encIv]
    | 1, _ => simp [encIvs, encIv]
    | t + 2, ht =>
      have := ih t (by simp at ht; omega)
      have e1 : (t + 2) / 2 = t / 2 + 1 := by omega
      have e2 : (t + 2) % 2 = t % 2 := by omega
      rw [e1, e2]
      simp only [encIvs, List.flatMap_cons] at this ⊢
      rw [List.getElem?_append_right (by simp [encIv])]
      simpa [encIv] using this

theorem flat_encIvs (d : List Iv) : (flatK encIv 2 d.toArray).toList = encIvs d := by
  apply List.ext_getElem?
  intro t
  by_cases ht : t < d.length * 2
  · rw [encIvs_get d t ht]
    have hs : t < (flatK encIv 2 d.toArray).size := by simpa using ht
    rw [Array.getElem?_toList, Array.getElem?_eq_getElem hs]
    have := get_flatK encIv 2 d.toArray t (by simpa using ht)
    rw [getElem!_pos _ t hs] at this
    rw [this]
    simp
  · rw [List.getElem?_eq_none (by simp; omega), List.getElem?_eq_none (by rw [encIvs_length]; omega)]

theorem holdsK_of_own {w : World} {base g cap : Nat} {d : List Iv} (h : w.ownsRow base 69 2 (.slice (some ⟨g, 0, none⟩) d.length cap) d.length (encIvs d)) : HoldsK encIv 2 w g 0 d.toArray := by
  intro j hj
  have hj' : j < d.length * 2 := by simpa using hj
  have hs : (flatK encIv 2 d.toArray)[j]! = (encIvs d)[j]'(by rw [encIvs_length]; omega) := by
    rw [getElem!_pos _ j (by simpa using hj), ← Array.getElem_toList (by simpa using hj)]
    simp only [flat_encIvs]
  constructor
  · rw [Nat.zero_add, h.cellAt j hj', hs, List.getElem?_eq_getElem (by rw [encIvs_length]; omega)]
    rfl
  · rw [Nat.zero_add]; exact h.frozenAt j

theorem own_putRowK {w : World} {base g cap q : Nat} {os : Array Obj} {d d' : List Iv} (h : w.ownsRow base 69 2 (.slice (some ⟨g, 0, none⟩) d.length cap) d.length (encIvs d)) (hl : d'.length = d.length) :
    (grow (putRowK encIv 2 (Sort.ahead w q) g 0 d'.toArray) os).ownsRow base 69 2 (.slice (some ⟨g, 0, none⟩) d'.length cap) d'.length (encIvs d') := by
  obtain ⟨_, h2⟩ := h
  refine ⟨encIvs_length d', ?_⟩
  rcases h2 with ⟨h3, _⟩ | ⟨g', cap', cur, hv, hb, hg, hn, hm, hs, ht⟩
  · cases h3
  · injection hv with hv1 _ hv3
    injection hv1 with hv1
    injection hv1 with hv1
    subst hv1 hv3
    refine .inr ⟨g, cap, putCells id 0 (flatK encIv 2 d'.toArray) cur, rfl, hb, ?_, by omega, hm, by simp [putCells, hs], ?_⟩
    · have hlt : g < w.heap.size := (Array.getElem?_eq_some_iff.1 hg).1
      rw [heap_grow_old _ _ (by simp [putRowK, putRow, mapBlock, Sort.ahead]; exact hlt)]
      simp only [putRowK, putRow, mapBlock, Sort.ahead, Array.getElem?_modify, if_true, hg, Option.map_some, onCells]
    · rw [← flat_encIvs d']
      apply List.ext_getElem?
      intro t
      rw [List.getElem?_take]
      by_cases ht' : t < d'.length * 2
      · rw [if_pos ht', Array.getElem?_toList, Array.getElem?_toList]
        have hc : t < cur.size := by rw [hs]; omega
        simp only [putCells, Array.getElem?_mapIdx]
        rw [Array.getElem?_eq_getElem hc, Option.map_some, if_pos ⟨by omega, by simp; omega⟩, Array.getElem?_eq_getElem (by simp; exact ht')]
        simp only [id, Nat.sub_zero]
        rw [getElem!_pos _ t (by simp; exact ht')]
      · rw [if_neg ht', List.getElem?_eq_none (by simp; omega)]

theorem below_putRowK {w : World} {base g q : Nat} {os : Array Obj} {d' : Array Iv} (hB : base ≤ g) (hw : base ≤ w.heap.size) : Below base w (grow (putRowK encIv 2 (Sort.ahead w q) g 0 d') os) := by
  refine ⟨rfl, rfl, rfl, by simp [putRowK, putRow, mapBlock, Sort.ahead], fun k hk => ?_⟩
  rw [heap_grow_old _ _ (by simp [putRowK, putRow, mapBlock, Sort.ahead]; omega)]
  simp only [putRowK, putRow, mapBlock, Sort.ahead, Array.getElem?_modify]
  rw [if_neg (by omega)]

def ltLo (a b : Iv) : Bool := decide (a.1 < b.1)
theorem swo_ltLo : SWO ltLo where
  irrefl := fun x => by simp [ltLo]
  trans := fun x y z h1 h2 => by simp [ltLo] at *; omega
  ntrans := fun x y z h1 h2 => by simp [ltLo] at *; omega

noncomputable def svT : TypeInfo := (Tryz.prog.info? 43).get (by kernel_rfl)
noncomputable def svE : TypeInfo := (Tryz.prog.info? 69).get (by kernel_rfl)
theorem svP : svE.hasPointers = false := by kernel_rfl
theorem svB : svE.bytes = 16 := by kernel_rfl
theorem svK (n : Nat) (h2 : 2 ≤ n) : Lib.swapperK n svE 25 = 9 := by
  have c : (n == 0) = false := by simp; omega
  have d : (n == 1) = false := by simp; omega
  simp [Lib.swapperK, svP, svB, c, d]

set_option maxHeartbeats 1000000 in
theorem less_any (blk off c Bs size : Nat) (W : World) (G : Nat → Int) (hs : W.cell? ⟨Bs, 0, none⟩ = some (.slice (some ⟨blk, off, none⟩) size c))
    (hc : ∀ t, t < size → W.cell? ⟨blk, off + t * 2, none⟩ = some (.int .i64 (G t))) (i j : Nat) (hi : i < size) (hj : j < size) (_hsz : size < 4611686018427387904) :
    Calls Tryz.prog 66 #[.int .i64 i, .int .i64 j, .pointer (some ⟨Bs, 0, none⟩)] W fun e w' => e = .returned (.bool (decide (G i < G j))) ∧ ∃ q, w' = W.drewN q := by
  have ci := hc i hi
  have cj := hc j hj
  go_enter Tryz.func66, Tryz.ntmps66
  go_wp2
  go_quiet (fail)
  go_wp2
  go_ret
  exact ⟨rfl, nq, rfl⟩

theorem sort_two (g c Bs : Nat) (d : Array Iv) (h2 : 2 ≤ d.size) (hsz : d.size < 4611686018427387904) (w : World) (hH : HoldsK encIv 2 w g 0 d) (hblk : g < w.heap.size)
    (hBs : w.cell? ⟨Bs, 0, none⟩ = some (.slice (some ⟨g, 0, none⟩) d.size c)) (hB1 : Bs < w.heap.size) (hB2 : Bs ≠ g) :
    Calls Tryz.prog 65 #[.iface 43 (.slice (some ⟨g, 0, none⟩) d.size c), .func (.func 66) #[] #[.pointer (some ⟨Bs, 0, none⟩)]] w fun e w' =>
      e = .returned (.tuple #[]) ∧ ∃ d' n os, PermIn 0 d.size d d' ∧ SortedIn ltLo 0 d.size d' ∧ w' = grow (putRowK encIv 2 (Sort.ahead w n) g 0 d') os := by
  have hless : LessReadsK Tryz.prog 66 #[.pointer (some ⟨Bs, 0, none⟩)] encIv 2 ltLo g 0 d.size w := by
    intro m os dk hs i j hi hj
    have e : sortWorldK encIv 2 w g 0 m dk os = putRowK encIv 2 (grow (Sort.ahead w m) os) g 0 dk := by
      unfold sortWorldK; rw [putRowK_grow _ _ (Sort.ahead w m) _ g 0 _ hblk]
    have hHg : HoldsK encIv 2 (grow (Sort.ahead w m) os) g 0 d := holdsK_grow _ _ _ _ g 0 d hblk (holdsK_ahead _ _ _ _ _ _ _ hH)
    refine less_any g 0 c Bs d.size _ (fun t => dk[t]!.1) ?_ (fun t ht => ?_) i j hi hj (by omega)
    · rw [e, cell?_putRowK_other _ _ _ g 0 dk _ (by exact hB2), cell?_grow _ _ _ (by exact hB1)]; exact hBs
    · rw [e]; exact ((holdsK_putRowK _ _ _ g 0 d dk hHg hs).cell (i := t) (c := 0) (by omega) (by omega)).1
  exact Any.sort_Slice_cells_sorted Tryz.laysGg6 43 69 svT svE (by kernel_rfl) (by kernel_rfl) (by kernel_rfl) (by kernel_rfl) 25 (fun _ => by kernel_rfl) encIv 2 (fun _ => rfl) (by kernel_rfl) (fun _ => by kernel_rfl)
    (fun x v hv => by simp [encIv] at hv; rcases hv with rfl | rfl <;> rfl) ltLo swo_ltLo 66 _
    (enters_of Tryz.func66 (by kernel_rfl) rfl) g 0 c d h2 hsz 171 (by rw [svK _ h2]; kernel_rfl) false
    (fun args W => run_callFunc_extern Tryz.func171 (by kernel_rfl) (by kernel_rfl) (by kernel_rfl) (e := Extern.ReflectliteSwapper.swap false) (by kernel_rfl) args W) w hless hH hblk

theorem sort_tiny (p : Option Addr) (n c : Nat) (h1 : n ≤ 1) (lb : Array Value) (w : World) :
    Calls Tryz.prog 65 #[.iface 43 (.slice p n c), .func (.func 66) #[] lb] w fun e w' => e = .returned (.tuple #[]) ∧ ∃ os, w' = grow w os := by
  rcases (show n = 0 ∨ n = 1 by omega) with rfl | rfl
  · exact Any.sort_Slice_tiny Tryz.laysGg6 43 69 svT svE (by kernel_rfl) (by kernel_rfl) (by kernel_rfl) (by kernel_rfl) 25 (fun _ => by kernel_rfl) p 0 c (by omega) 163 (by kernel_rfl) _ _ lb w
  · exact Any.sort_Slice_tiny Tryz.laysGg6 43 69 svT svE (by kernel_rfl) (by kernel_rfl) (by kernel_rfl) (by kernel_rfl) 25 (fun _ => by kernel_rfl) p 1 c (by omega) 164 (by kernel_rfl) _ _ lb w

/-- sort.Slice at a row of the call's own, of whatever length -/
theorem sort_any (base Bs : Nat) (v : Value) (d : List Iv) (w : World) (hown : w.ownsRow base 69 2 v d.length (encIvs d)) (hB : Bs < base) (hw : base ≤ w.heap.size)
    (hBs : w.cell? ⟨Bs, 0, none⟩ = some v) (hsz : d.length < 4611686018427387904) :
    Calls Tryz.prog 65 #[.iface 43 v, .func (.func 66) #[] #[.pointer (some ⟨Bs, 0, none⟩)]] w fun e w' =>
      e = .returned (.tuple #[]) ∧ ∃ d' : List Iv, d'.Perm d ∧ d'.Pairwise (fun a b => a.1 ≤ b.1) ∧ w'.ownsRow base 69 2 v d'.length (encIvs d') ∧ Below base w w' := by
  by_cases h1 : d.length ≤ 1
  · have hform : ∃ p c, v = .slice p d.length c := by
      rcases ownsRow_forms hown with ⟨rfl, h⟩ | ⟨g, c, rfl⟩
      · exact ⟨none, 0, by rw [h]⟩
      · exact ⟨_, _, rfl⟩
    obtain ⟨p, c, rfl⟩ := hform
    refine (sort_tiny p d.length c h1 _ w).mono ?_
    rintro e w' ⟨he, os, rfl⟩
    refine ⟨he, d, List.Perm.refl _, ?_, ?_, ?_⟩
    · match d, h1 with
      | [], _ => exact List.Pairwise.nil
      | [x], _ => simp
    · exact hown.kept (row := none) ⟨rfl, rfl, rfl, by simp, fun k hk _ => heap_grow_old w os hk⟩ (by cases p <;> simp [Value.ownBlock])
    · exact ⟨rfl, rfl, rfl, by simp, fun k hk => heap_grow_old w os (by omega)⟩
  · obtain ⟨g, c, rfl⟩ := ownsRow_form hown (by omega)
    have hg := hown.lt g rfl
    refine (sort_two g c Bs d.toArray (by simp; omega) (by simpa using hsz) w (holdsK_of_own hown) hg.2 (by simpa using hBs) (by omega) (by omega)).mono ?_
    rintro e w' ⟨he, d', n, os, hp, hs, rfl⟩
    have hsize : d'.toList.length = d.length := by have := hp.1; simpa using this
    refine ⟨he, d'.toList, ?_, ?_, ?_, ?_⟩
    · have := hp.2.2
      have e1 : (d'.extract 0 d.toArray.size).toList = d'.toList := by
        have : d.toArray.size = d'.size := by simpa using hsize.symm
        rw [this]; simp
      have e2 : (d.toArray.extract 0 d.toArray.size).toList = d := by simp
      rwa [e1, e2] at this
    · rw [List.pairwise_iff_getElem]
      intro i j hi hj hij
      have := hs i j (by omega) hij (by rw [List.size_toArray, ← hsize]; exact hj)
      rw [getElem!_pos d' j (by simpa using hj), getElem!_pos d' i (by simpa using hi)] at this
      simp [ltLo] at this
      simpa using this
    · have := own_putRowK (q := n) (os := os) (d' := d'.toList) hown hsize
      rw [hsize] at this ⊢
      simpa using this
    · exact below_putRowK hg.1 hw

end Go.Proofs.YtdlebcijgdkfjaaGreatDoor
