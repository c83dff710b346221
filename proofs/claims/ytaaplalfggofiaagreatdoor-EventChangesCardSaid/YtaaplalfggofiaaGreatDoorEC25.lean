/-
  Several texts in one: Iter, QSig. Each says at its head what it holds.
-/
import Derived.Shelf.SlIterI.Nil
import Derived.Shelf.SortM.Plain
import Derived.Shelf.SortM.SortNone
import Derived.Ground.GgzProg
import Derived.Ground.SlgmProg
import Derived.Test.YtaaplalfggofiaaGreatDoorProg
import Derived.Test.YtaaplalfggofiaaGreatDoorEC18
import Derived.Test.YtaaplalfggofiaaGreatDoorEC7
import Derived.Test.YtaaplalfggofiaaGreatDoorEC24
import Derived.Laws.EntriesVeiled

/-
  DERIVED: THE SHELF's CONTRACTS AT THIS DUMP, IN PLAIN WORDS (tools/lay-plain.mjs out of 'TryzIter.lean', which tools/lay-shelf.mjs wrote): THE SAME DECLARATIONS UNDER THE SAME NAMES: 'import', 'namespace', 'open', 'def', 'theorem' AND NOTHING ELSE: no command of the shelf's: FOR A HAND-IN. Each laying: the table of numbers ('.._ren') and one theorem, a field a fact of the dump's own or the kernel's comparison; each contract: ONE APPLICATION.
-/
namespace Go.Proofs
open Go.Shelf
def Tryz.keysA_ren : Go.Shelf.Ren := ⟨fun | 7 => 190 | 10 => 248 | n => n, fun | 23 => 255 | 26 => 3 | 3 => 4 | 28 => 259 | 0 => 0 | 27 => 258 | 33 => 206 | 4 => 4 | n => n, fun | n => n⟩
theorem Tryz.keysA : Go.Proofs.SlLaysZI.n7 Tryz.prog Tryz.keysA_ren := {
  mixed := by kernel_rfl
  f7 := ⟨Tryz.f190.name, by decide, Tryz.func190.trans (congrArg some (by kernel_rfl))⟩
  f10 := ⟨Tryz.f248.name, by decide, Tryz.func248.trans (congrArg some (by kernel_rfl))⟩
  t0 := Tryz.underlying0
  a0 := Tryz.isAgg0
  z0 := Tryz.sizeOf0
  v0 := Tryz.zeroValue0
  t4 := Tryz.underlying4
  a4 := Tryz.isAgg4
  z4 := Tryz.sizeOf4
  v4 := Tryz.zeroValue4
  t23 := Tryz.underlying255
  a23 := Tryz.isAgg255
  z23 := Tryz.sizeOf255
  v23 := Tryz.zeroValue255
  t26 := Tryz.underlying3
  a26 := Tryz.isAgg3
  z26 := Tryz.sizeOf3
  v26 := Tryz.zeroValue3
  t27 := Tryz.underlying258
  a27 := Tryz.isAgg258
  z27 := Tryz.sizeOf258
  v27 := Tryz.zeroValue258
  t28 := Tryz.underlying259
  a28 := Tryz.isAgg259
  z28 := Tryz.sizeOf259
  v28 := Tryz.zeroValue259
  t33 := Tryz.underlying206
  a33 := Tryz.isAgg206
  z33 := Tryz.sizeOf206
  v33 := Tryz.zeroValue206 }
def Tryz.sortedA_ren : Go.Shelf.Ren := ⟨fun | 6 => 189 | 8 => 246 | 9 => 247 | 11 => 306 | 13 => 207 | 12 => 307 | 23 => 263 | 24 => 264 | 14 => 334 | 15 => 335 | 16 => 336 | 17 => 337 | 18 => 338 | 19 => 339 | 20 => 340 | 21 => 341 | 22 => 342 | 25 => 360 | 26 => 361 | 27 => 362 | 28 => 363 | 29 => 364 | 30 => 299 | 31 => 379 | n => n, fun | 26 => 3 | 28 => 259 | 24 => 57 | 0 => 0 | 3 => 3 | 37 => 281 | 48 => 328 | 50 => 330 | 4 => 4 | 40 => 373 | 39 => 372 | 45 => 170 | 5 => 5 | 9 => 9 | 51 => 396 | 55 => 365 | 57 => 406 | 58 => 45 | 33 => 206 | n => n, fun | n => n⟩
theorem Tryz.sortedA : Go.Proofs.SlLaysZI.n6 Tryz.prog Tryz.sortedA_ren := {
  mixed := by kernel_rfl
  f6 := ⟨Tryz.f189.name, by decide, Tryz.func189.trans (congrArg some (by kernel_rfl))⟩
  f8 := ⟨Tryz.f246.name, by decide, Tryz.func246.trans (congrArg some (by kernel_rfl))⟩
  f11 := ⟨Tryz.f306.name, by decide, Tryz.func306.trans (congrArg some (by kernel_rfl))⟩
  t0 := Tryz.underlying0
  a0 := Tryz.isAgg0
  z0 := Tryz.sizeOf0
  v0 := Tryz.zeroValue0
  t24 := Tryz.underlying57
  a24 := Tryz.isAgg57
  z24 := Tryz.sizeOf57
  v24 := Tryz.zeroValue57
  t26 := Tryz.underlying3
  a26 := Tryz.isAgg3
  z26 := Tryz.sizeOf3
  v26 := Tryz.zeroValue3
  t28 := Tryz.underlying259
  a28 := Tryz.isAgg259
  z28 := Tryz.sizeOf259
  v28 := Tryz.zeroValue259
  i26 := by kernel_rfl }
def Tryz.sortA_ren : Go.Shelf.Ren := ⟨fun | 5 => 247 | 8 => 207 | 7 => 307 | 19 => 263 | 20 => 264 | 10 => 334 | 11 => 335 | 12 => 336 | 13 => 337 | 14 => 338 | 15 => 339 | 16 => 340 | 17 => 341 | 18 => 342 | 30 => 360 | 31 => 361 | 32 => 362 | 33 => 363 | 34 => 364 | 35 => 299 | 40 => 379 | n => n, fun | 23 => 57 | 25 => 3 | 3 => 3 | 32 => 281 | 22 => 57 | 0 => 0 | 44 => 328 | 46 => 330 | 4 => 4 | 36 => 373 | 35 => 372 | 41 => 170 | 5 => 5 | 9 => 9 | 53 => 396 | 57 => 365 | 63 => 406 | 64 => 45 | n => n, fun | n => n⟩
theorem Tryz.sortA : Go.Proofs.SlLaysM.n5 Tryz.prog Tryz.sortA_ren := {
  mixed := by kernel_rfl
  f5 := ⟨Tryz.f247.name, by decide, Tryz.func247.trans (congrArg some (by kernel_rfl))⟩
  f7 := ⟨Tryz.f307.name, by decide, Tryz.func307.trans (congrArg some (by kernel_rfl))⟩
  f8 := Tryz.func207.trans (congrArg some (by kernel_rfl))
  f10 := ⟨Tryz.f334.name, by decide, Tryz.func334.trans (congrArg some (by kernel_rfl))⟩
  f11 := ⟨Tryz.f335.name, by decide, Tryz.func335.trans (congrArg some (by kernel_rfl))⟩
  f12 := ⟨Tryz.f336.name, by decide, Tryz.func336.trans (congrArg some (by kernel_rfl))⟩
  f13 := ⟨Tryz.f337.name, by decide, Tryz.func337.trans (congrArg some (by kernel_rfl))⟩
  f14 := ⟨Tryz.f338.name, by decide, Tryz.func338.trans (congrArg some (by kernel_rfl))⟩
  f15 := ⟨Tryz.f339.name, by decide, Tryz.func339.trans (congrArg some (by kernel_rfl))⟩
  f16 := ⟨Tryz.f340.name, by decide, Tryz.func340.trans (congrArg some (by kernel_rfl))⟩
  f17 := ⟨Tryz.f341.name, by decide, Tryz.func341.trans (congrArg some (by kernel_rfl))⟩
  f18 := ⟨Tryz.f342.name, by decide, Tryz.func342.trans (congrArg some (by kernel_rfl))⟩
  f19 := Tryz.func263.trans (congrArg some (by kernel_rfl))
  f20 := Tryz.func264.trans (congrArg some (by kernel_rfl))
  f30 := ⟨Tryz.f360.name, by decide, Tryz.func360.trans (congrArg some (by kernel_rfl))⟩
  f31 := Tryz.func361.trans (congrArg some (by kernel_rfl))
  f32 := Tryz.func362.trans (congrArg some (by kernel_rfl))
  f33 := ⟨Tryz.f363.name, by decide, Tryz.func363.trans (congrArg some (by kernel_rfl))⟩
  f34 := ⟨Tryz.f364.name, by decide, Tryz.func364.trans (congrArg some (by kernel_rfl))⟩
  f35 := ⟨Tryz.f299.name, by decide, Tryz.func299.trans (congrArg some (by kernel_rfl))⟩
  f40 := ⟨Tryz.f379.name, by decide, Tryz.func379.trans (congrArg some (by kernel_rfl))⟩
  t0 := Tryz.underlying0
  a0 := Tryz.isAgg0
  z0 := Tryz.sizeOf0
  v0 := Tryz.zeroValue0
  t3 := Tryz.underlying3
  a3 := Tryz.isAgg3
  z3 := Tryz.sizeOf3
  v3 := Tryz.zeroValue3
  t4 := Tryz.underlying4
  a4 := Tryz.isAgg4
  z4 := Tryz.sizeOf4
  v4 := Tryz.zeroValue4
  t5 := Tryz.underlying5
  a5 := Tryz.isAgg5
  z5 := Tryz.sizeOf5
  v5 := Tryz.zeroValue5
  t9 := Tryz.underlying9
  a9 := Tryz.isAgg9
  z9 := Tryz.sizeOf9
  v9 := Tryz.zeroValue9
  t22 := Tryz.underlying57
  a22 := Tryz.isAgg57
  z22 := Tryz.sizeOf57
  v22 := Tryz.zeroValue57
  t23 := Tryz.underlying57
  a23 := Tryz.isAgg57
  z23 := Tryz.sizeOf57
  v23 := Tryz.zeroValue57
  t25 := Tryz.underlying3
  a25 := Tryz.isAgg3
  z25 := Tryz.sizeOf3
  v25 := Tryz.zeroValue3
  t32 := Tryz.underlying281
  a32 := Tryz.isAgg281
  z32 := Tryz.sizeOf281
  v32 := Tryz.zeroValue281
  t35 := Tryz.underlying372
  a35 := Tryz.isAgg372
  z35 := Tryz.sizeOf372
  v35 := Tryz.zeroValue372
  t36 := Tryz.underlying373
  a36 := Tryz.isAgg373
  z36 := Tryz.sizeOf373
  v36 := Tryz.zeroValue373
  t41 := Tryz.underlying170
  a41 := Tryz.isAgg170
  z41 := Tryz.sizeOf170
  v41 := Tryz.zeroValue170
  t44 := Tryz.underlying328
  a44 := Tryz.isAgg328
  z44 := Tryz.sizeOf328
  v44 := Tryz.zeroValue328
  t46 := Tryz.underlying330
  a46 := Tryz.isAgg330
  z46 := Tryz.sizeOf330
  v46 := Tryz.zeroValue330
  t53 := Tryz.underlying396
  a53 := Tryz.isAgg396
  z53 := Tryz.sizeOf396
  v53 := Tryz.zeroValue396
  t57 := Tryz.underlying365
  a57 := Tryz.isAgg365
  z57 := Tryz.sizeOf365
  v57 := Tryz.zeroValue365
  t63 := Tryz.underlying406
  a63 := Tryz.isAgg406
  z63 := Tryz.sizeOf406
  v63 := Tryz.zeroValue406
  t64 := Tryz.underlying45
  a64 := Tryz.isAgg45
  z64 := Tryz.sizeOf45
  v64 := Tryz.zeroValue45 }
end Go.Proofs

/-
  qcheck.Signals: the signals of a tree, in order, each once.
-/
namespace Go.Proofs.YtaaplalfggofiaaGreatDoor
open Go.RowKit Go.Maps Go.Sort Go.Shelf

theorem sortsA (m : Nat) : AnyZI.SortsIn Tryz.prog Tryz.sortedA_ren Fence.wide m :=
  ⟨fun blk off cap ss W hH hblk hsz => callsIn_wide.2 (AnyM.slices_Sort_int Tryz.sortA blk off cap ss W hH hblk hsz),
   fun p cap W => callsIn_wide.2 (AnyM.slices_Sort_int_none Tryz.sortA p cap W)⟩
theorem keys_any (mb : Option Nat) (W : World) : Calls Tryz.prog 190 #[.map mb] W fun e w' => e = .returned (.func (.func 248) #[] #[.pointer (some ⟨W.heap.size, 0, none⟩)]) ∧ w' = W.alloc (.cells #[.map mb] 255) :=
  callsIn_wide.1 (AnyZI.keys_in Tryz.keysA Fence.wide 5 trivial rfl mb W)
theorem sorted_any {H : Type} (b nn : Nat) (D0 : DataW H) (R : Value → Option (DataW H × List MemPlace)) (w : World) (hown : w.ownsMap Tryz.prog 3 R b nn D0) (hmax : Maps.size D0 ≤ maxLen) (hbytes : Maps.size D0 * 8 ≤ 140737488355328) :
    Calls Tryz.prog 189 #[.func (.func 248) #[] #[.pointer (some ⟨w.heap.size, 0, none⟩)]] (w.alloc (.cells #[.map (some b)] 255)) fun e w' => ∃ (v : Value) (ss : List Int), e = .returned v ∧ ss.Perm (intKeys D0) ∧
      w'.ownsRow (w.alloc (.cells #[.map (some b)] 255)).heap.size 3 1 v ss.length ((ss.mergeSort (fun x y => decide (x ≤ y))).map encZ) ∧ (v = .slice none 0 0 ↔ ss = []) ∧ Below (w.alloc (.cells #[.map (some b)] 255)).heap.size (w.alloc (.cells #[.map (some b)] 255)) w' := by
  refine (callsIn_wide (n := 5)).1 ?_
  have hbl := hown.lt
  have hseq : SeqGives Fence.wide 2 Tryz.prog 248 #[.pointer (some ⟨w.heap.size, 0, none⟩)] encZ (fun ss => ss.Perm (intKeys D0)) (Maps.size D0) (w.alloc (.cells #[.map (some b)] 255)) :=
    AnyZI.keys_gives (ρ := Tryz.keysA_ren) { Tryz.keysA with } Fence.wide _ trivial rfl (by omega) w.heap.size b nn D0 _ (by simp) (by simp) (by
      obtain ⟨es, clock, hb, Ft, hs, hD⟩ := hown
      exact ⟨es, clock, (Below.heap_alloc _ _ b hbl).trans hb, Ft, hs, hD⟩)
  exact AnyZI.sorted_in Tryz.sortedA Fence.wide 5 trivial trivial trivial trivial rfl (by omega) (sortsA _) (enters_of Tryz.func247 (by kernel_rfl) rfl) 248 #[.pointer (some ⟨w.heap.size, 0, none⟩)] trivial (enters_of Tryz.func248 (by kernel_rfl) rfl) _ _ hmax hbytes _ hseq

theorem mem_intKeys {H : Type} {R : Value → Option (DataW H × List MemPlace)} {w : World} {b n : Nat} {D : DataW H} (h : w.ownsMap Tryz.prog 3 R b n D) {x : Int} : x ∈ intKeys D ↔ Maps.has D (.int .i64 x) = true := by
  obtain ⟨es, hD, hpw, _⟩ := h.entries intKeyB
  obtain ⟨es', hD', hko⟩ := h.keysOf
  obtain rfl : es = es' := by rw [hD] at hD'; simpa using hD'
  subst hD
  rw [Maps.has_eq, List.any_eq_true]
  show x ∈ es.map (fun p => Go.intOf p.1) ↔ _
  rw [List.mem_map]
  constructor
  · rintro ⟨p, hp, rfl⟩
    obtain ⟨v, hv⟩ := hko p hp
    obtain ⟨a, _, ha, _⟩ := Maps.keyOf_i64 Tryz.underlying3 hv
    exact ⟨p, hp, by rw [ha]; simp [Lit.sameKey, Go.intOf]⟩
  · rintro ⟨p, hp, hs⟩
    obtain ⟨v, hv⟩ := hko p hp
    obtain ⟨a, _, ha, _⟩ := Maps.keyOf_i64 Tryz.underlying3 hv
    rw [ha] at hs
    exact ⟨p, hp, by rw [ha]; simpa [Lit.sameKey, Go.intOf] using hs⟩

theorem intKeys_nodup {H : Type} {R : Value → Option (DataW H × List MemPlace)} {w : World} {b n : Nat} {D : DataW H} (h : w.ownsMap Tryz.prog 3 R b n D) : (intKeys D).Nodup ∧ ∀ x ∈ intKeys D, I64 x := by
  obtain ⟨es, hD, hpw, _⟩ := h.entries intKeyB
  obtain ⟨es', hD', hko⟩ := h.keysOf
  obtain rfl : es = es' := by rw [hD] at hD'; simpa using hD'
  subst hD
  refine ⟨?_, fun x hx => ?_⟩
  · show (es.map (fun p => Go.intOf p.1)).Nodup
    unfold List.Nodup
    rw [List.pairwise_map]
    refine hpw.imp_of_mem fun {p q} hp hq hne => ?_
    obtain ⟨v, hv⟩ := hko p hp
    obtain ⟨a, _, ha, _⟩ := Maps.keyOf_i64 Tryz.underlying3 hv
    obtain ⟨v', hv'⟩ := hko q hq
    obtain ⟨a', _, ha', _⟩ := Maps.keyOf_i64 Tryz.underlying3 hv'
    rw [ha, ha'] at hne ⊢
    intro e
    exact hne (by simp only [Go.intOf] at e; rw [e])
  · have hx : x ∈ es.map (fun p => Go.intOf p.1) := hx
    obtain ⟨p, hp, rfl⟩ := List.mem_map.1 hx
    obtain ⟨v, hv⟩ := hko p hp
    obtain ⟨a, _, ha, hw⟩ := Maps.keyOf_i64 Tryz.underlying3 hv
    rw [ha]
    simp [Lit.wf, IntKind.min, IntKind.max, IntKind.bits, IntKind.signed] at hw
    unfold I64 Go.intOf
    omega
/-- what Signals answers, each signal once -/
def SigsPost2 (n : Nd) (w : World) (e : Ending) (w' : World) : Prop := ∃ (A : Option Addr) (c : Nat) (zs : List Int), e = .returned (.slice A zs.length c) ∧ IntsAt w' w'.heap.size A zs ∧ zs.length ≤ 1000000 ∧ zs.Pairwise (· ≤ ·) ∧ (∀ x, I64 x → (x ∈ zs ↔ x ∈ sigF n)) ∧ Below w.heap.size w w' ∧ zs.Nodup ∧ (∀ x ∈ zs, I64 x) ∧ ∃ base, w.heap.size ≤ base ∧ OwnInt w' base A c zs
set_option maxRecDepth 100000 in
set_option maxHeartbeats 4000000 in
theorem signals2_any (n : Nd) (w : World) (ht : TreesAt w (Lo w.heap.size) n.KA n.kids) (hok : okF n) (hle : (sigF n).length ≤ 1000000) : Calls Tryz.prog 129 #[.agg (cNd n).toArray] w (SigsPost2 n w) := by
  obtain ⟨n', hn'⟩ : ∃ n', n = n' := ⟨_, rfl⟩
  have HN := hide (show ∀ (N B Bm Bw : Nat) (V : World), SigSt V N B Bm Bw 0 (fun _ => False) → TreesAt V (Lo N) n.KA n.kids → Calls Tryz.prog 188 #[.agg (cNd n).toArray, .pointer (some ⟨Bm, 0, none⟩), .pointer (some ⟨Bw, 0, none⟩)] V (SigPost N B Bm Bw (sigF n').length (fun x => x ∈ sigF n') V) from fun N B Bm Bw V h1 h2 => (sigw_any N B Bm Bw n V 0 _ h1 h2 hok (by omega)).mono fun e w' h => by
    obtain ⟨h3, h4, h5⟩ := h
    rw [Nat.zero_add, hn'] at h4
    exact ⟨h3, h4.congr fun x => by simp, h5⟩)
  rw [hn'] at hle
  clear hok
  have HLE := hide hle
  have HS := hide (show SigsPost2 n = SigsPost2 n' from by rw [hn'])
  rw [HS.out]
  clear hle HS hn'
  obtain ⟨kind, at_, name, value, a, b, c, d, KA, kc, kids⟩ := n
  unfold Nd.KA Nd.kids at ht
  unfold cNd
  have hl := ht.len
  obtain ⟨W0, hW0⟩ : ∃ W0, w.alloc (.cells #[.int .i64 kind, .int .i64 at_, .string name, .string value, .int .i64 a, .int .i64 b, .int .i64 c, .int .i64 d, .slice KA kids.length kc] 28) = W0 := ⟨_, rfl⟩
  have g0 := new_at hW0
  have hb0 : Below w.heap.size w W0 := by rw [← hW0]; exact (Below.refl _ _).alloc (Nat.le_refl _) _
  have HT := hide (ht.grow hb0)
  have HG0 := hide g0
  have HB0 := hide hb0
  have HW0 := hide hW0
  obtain ⟨y0, y1, y2, y3, y4, y5, y6, y7, y8⟩ := box9 g0
  clear ht g0 hb0 hW0
  try dsimp only [Nd.kind, Nd.value, Nd.a, Nd.b, Nd.c, Nd.d, Nd.kids]
  have hmm := @run_makeMap Tryz.prog
  go_enter Tryz.func129, Tryz.ntmps129
  go_upto_region 1 with (fail)
  rw [HW0.out]
  go_upto_region 3 with (fail)
  clear hmm
  obtain ⟨V1, hV1⟩ : ∃ V1, ((W0.alloc (.map #[] 0)).alloc (.cells #[.map (some W0.heap.size)] 255)).alloc (.cells #[.nilFunc] 256) = V1 := ⟨_, rfl⟩
  rw [hV1]
  obtain ⟨p0, p1, p2, hbV, hsV⟩ := chain3 _ _ _ _ hV1
  have hm0 : MapB V1 W0.heap.size 0 (fun _ => False) := (MapB.made W0).block (by rw [p0]; exact (heap_alloc_new W0 _).symm)
  have HST := hide (show SigSt (V1.setCell ⟨W0.heap.size + 1 + 1, 0, none⟩ (.func (.func 188) #[] #[.pointer (some ⟨W0.heap.size + 1, 0, none⟩), .pointer (some ⟨W0.heap.size + 1 + 1, 0, none⟩)])) W0.heap.size W0.heap.size (W0.heap.size + 1) (W0.heap.size + 1 + 1) 0 (fun _ => False) from
    ⟨hm0.block (Below.heap_setCell _ _ _ _ (by simp only; omega)), box_set p1 (by omega), box_set1 p2, Nat.le_refl _, by omega, by omega⟩)
  have hbV2 := hbV.setCell (p := ⟨W0.heap.size + 1 + 1, 0, none⟩) (by simp only; omega) (.func (.func 188) #[] #[.pointer (some ⟨W0.heap.size + 1, 0, none⟩), .pointer (some ⟨W0.heap.size + 1 + 1, 0, none⟩)])
  have z0 := box_cell p2
  have z1 := box_frozen p2
  clear hV1 p0 p1 p2 hm0 hbV y0 y1 y2 y3 y4 y5 y6 y7 y8
  go_upto_region 4 with (fail)
  obtain ⟨V, hV⟩ : ∃ V, V1.setCell ⟨W0.heap.size + 1 + 1, 0, none⟩ (.func (.func 188) #[] #[.pointer (some ⟨W0.heap.size + 1, 0, none⟩), .pointer (some ⟨W0.heap.size + 1 + 1, 0, none⟩)]) = V := ⟨_, rfl⟩
  rw [hV] at HST hbV2 ⊢
  have HBV := hide hbV2
  obtain ⟨y0, y1, y2, y3, y4, y5, y6, y7, y8⟩ := box9 ((hbV2.block _ (box_lt HG0.out)).trans HG0.out)
  have cw : V.cell? ⟨W0.heap.size + 1 + 1, 0, none⟩ = some (.func (.func 188) #[] #[.pointer (some ⟨W0.heap.size + 1, 0, none⟩), .pointer (some ⟨W0.heap.size + 1 + 1, 0, none⟩)]) := box_cell HST.out.vw
  have hcall := HN.out _ _ _ _ _ HST.out (show TreesAt V (Lo W0.heap.size) KA kids from HT.out.stay (stay_below hbV2 fun _ h => h))
  unfold cNd at hcall
  have HCALL := hide hcall
  clear hcall hV hbV2 HN z0 z1
  go_upto_region 5 with (go_at_call 188; refine HCALL.out.mono ?_; rintro e w2 ⟨rfl, hs2, hb2⟩; have HS2 := hide hs2; have HB2 := hide hb2; clear hs2 hb2)
  obtain ⟨D, hown, hset⟩ := HS2.out.map
  have hsz := Nat.le_trans hown.size_le HLE.out
  have cm : w2.cell? ⟨W0.heap.size + 1, 0, none⟩ = some (.map (some W0.heap.size)) := box_cell HS2.out.vm
  have hmem := fun x => mem_intKeys (x := x) hown
  have hwf := intKeys_wf hown Tryz.underlying3
  have HSORT := hide (sorted_any W0.heap.size _ D _ w2 hown (by unfold maxLen; omega) (by omega))
  have HMEM := hide hmem
  have HWF := hide hwf
  have HSET := hide hset
  have HND := hide (intKeys_nodup hown)
  have HLK := hide (show (intKeys D).length = Maps.size D from by obtain ⟨es, hD, _⟩ := hown.entries intKeyB; subst hD; simp [intKeys, Maps.size])
  have HOW := hide (show Below w.heap.size w w2 from by
    have h1 := bstep HB0.out HBV.out
    exact h1.trans (HB2.out.below (Nat.le_trans HB0.out.size HBV.out.size) (fun k e => by injection e with e; have := HB0.out.size; omega)))
  clear hown hset hmem hwf cw y0 y1 y2 y3 y4 y5 y6 y7 y8
  go_wp2_with first
    | (go_at_call 190
       refine (keys_any (some W0.heap.size) w2).mono ?_
       rintro e w3 ⟨rfl, rfl⟩)
    | (go_at_call 189
       refine HSORT.out.mono ?_
       rintro e w4 ⟨v, ss, rfl, hp, hrow, hnil, hb4⟩
       have HP := hide hp
       have HROW := hide hrow
       have HB4 := hide hb4
       clear hp hrow hnil hb4)
  go_ret
  have hrow := HROW.out
  have hl2 : (ss.mergeSort (fun x y => decide (x ≤ y))).length = ss.length := by simp
  have hb5 : Below w.heap.size w w4 := bstep HOW.out (((Below.refl _ _).alloc (Nat.le_refl _) _).trans (HB4.out.mono (by simp)))
  have hform : ∃ A cc, v = .slice A ss.length cc := by
    rcases Joins.ownsRow_forms hrow with ⟨rfl, h⟩ | ⟨g, cc, rfl⟩
    · exact ⟨none, 0, by rw [h]⟩
    · exact ⟨_, _, rfl⟩
  obtain ⟨A, cc, rfl⟩ := hform
  rw [← hl2] at hrow ⊢
  have hin := OwnInt.ats (show OwnInt w4 _ A cc _ from hrow)
  have hms : ∀ x, x ∈ ss.mergeSort (fun x y => decide (x ≤ y)) ↔ x ∈ intKeys D := fun x => by rw [List.mem_mergeSort, HP.out.mem_iff]
  refine ⟨A, cc, _, rfl, hin, by rw [hl2, HP.out.length_eq, HLK.out]; exact hsz, ?_, fun x hx => ?_, hb5, ?_, fun x hx => HND.out.2 x ((hms x).1 hx), _, ?_, hrow⟩
  · have h := List.pairwise_mergeSort (le := fun x y : Int => decide (x ≤ y)) (fun a b c h1 h2 => by simp only [decide_eq_true_eq] at *; omega) (fun a b => by simp only [Bool.or_eq_true, decide_eq_true_eq]; omega) ss
    exact h.imp fun h => of_decide_eq_true h
  · rw [hms, HMEM.out]
    obtain ⟨h1, h2⟩ := HSET.out x hx
    exact ⟨fun h => Classical.byContradiction fun hn => (by rw [h1 hn] at h; cases h), h2⟩
  · exact (List.mergeSort_perm ss _).nodup_iff.2 (HP.out.nodup_iff.2 HND.out.1)
  · have := HOW.out.size
    simp
    omega
end Go.Proofs.YtaaplalfggofiaaGreatDoor
