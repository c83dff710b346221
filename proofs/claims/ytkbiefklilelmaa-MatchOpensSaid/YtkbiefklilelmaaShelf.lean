/-
  DERIVED: THE SHELF's CONTRACTS AT THIS DUMP, IN PLAIN WORDS (tools/lay-plain.mjs out of 'TryShelf.lean', which tools/lay-shelf.mjs wrote): THE SAME DECLARATIONS UNDER THE SAME NAMES: 'import', 'namespace', 'open', 'def', 'theorem' AND NOTHING ELSE: no command of the shelf's: FOR A HAND-IN. Each laying: the table of numbers ('.._ren') and one theorem, a field a fact of the dump's own or the kernel's comparison; each contract: ONE APPLICATION.
-/
import Derived.Shelf.Small.Wraps
import Derived.Shelf.Sort.Plain
import Derived.Ground.GgsProg
import Derived.Shelf.GgSortFunc.Tiny
import Derived.Ground.Names2Prog
import Derived.Shelf.Slices.CompactI
import Derived.Shelf.Slices.SearchI
import Derived.Shelf.Slices.Cells
import Derived.Shelf.Slices.In.SortNone
import Derived.Shelf.Slices.Empties
import Derived.Shelf.SlSortFuncK.WholeK
import Derived.Test.YtkbiefklilelmaaProg
namespace Go.Proofs
open Go.Shelf
def Try.lays189_ren : Go.Shelf.Ren := ⟨fun | 189 => 81 | 125 => 96 | 257 => 101 | 128 => 118 | 129 => 119 | 294 => 128 | 295 => 129 | 296 => 130 | 297 => 131 | 298 => 132 | 299 => 133 | 216 => 102 | 300 => 134 | 301 => 135 | 328 => 142 | 329 => 143 | 330 => 144 | 331 => 145 | 332 => 146 | 215 => 136 | 343 => 148 | n => n, fun | 28 => 36 | 3 => 3 | 46 => 127 | 0 => 0 | 51 => 144 | 53 => 146 | 4 => 4 | 183 => 156 | 182 => 155 | 131 => 87 | 5 => 5 | 9 => 9 | 218 => 167 | 222 => 165 | 228 => 172 | 229 => 97 | n => n, fun | n => n⟩
theorem Try.lays189 : Go.Proofs.Lays.n189 Try.prog Try.lays189_ren := {
  mixed := by kernel_rfl
  f125 := Try.func96.trans (congrArg some (by kernel_rfl))
  f128 := Try.func118.trans (congrArg some (by kernel_rfl))
  f129 := Try.func119.trans (congrArg some (by kernel_rfl))
  f189 := Try.func81.trans (congrArg some (by kernel_rfl))
  f215 := Try.func136.trans (congrArg some (by kernel_rfl))
  f216 := Try.func102.trans (congrArg some (by kernel_rfl))
  f257 := Try.func101.trans (congrArg some (by kernel_rfl))
  f294 := Try.func128.trans (congrArg some (by kernel_rfl))
  f295 := Try.func129.trans (congrArg some (by kernel_rfl))
  f296 := Try.func130.trans (congrArg some (by kernel_rfl))
  f297 := Try.func131.trans (congrArg some (by kernel_rfl))
  f298 := Try.func132.trans (congrArg some (by kernel_rfl))
  f299 := Try.func133.trans (congrArg some (by kernel_rfl))
  f300 := Try.func134.trans (congrArg some (by kernel_rfl))
  f301 := Try.func135.trans (congrArg some (by kernel_rfl))
  f328 := Try.func142.trans (congrArg some (by kernel_rfl))
  f329 := Try.func143.trans (congrArg some (by kernel_rfl))
  f330 := Try.func144.trans (congrArg some (by kernel_rfl))
  f331 := Try.func145.trans (congrArg some (by kernel_rfl))
  f332 := Try.func146.trans (congrArg some (by kernel_rfl))
  f343 := Try.func148.trans (congrArg some (by kernel_rfl))
  t0 := Try.underlying0
  a0 := Try.isAgg0
  z0 := Try.sizeOf0
  v0 := Try.zeroValue0
  t3 := Try.underlying3
  a3 := Try.isAgg3
  z3 := Try.sizeOf3
  v3 := Try.zeroValue3
  t4 := Try.underlying4
  a4 := Try.isAgg4
  z4 := Try.sizeOf4
  v4 := Try.zeroValue4
  t5 := Try.underlying5
  a5 := Try.isAgg5
  z5 := Try.sizeOf5
  v5 := Try.zeroValue5
  t9 := Try.underlying9
  a9 := Try.isAgg9
  z9 := Try.sizeOf9
  v9 := Try.zeroValue9
  t28 := Try.underlying36
  a28 := Try.isAgg36
  z28 := Try.sizeOf36
  v28 := Try.zeroValue36
  t46 := Try.underlying127
  a46 := Try.isAgg127
  z46 := Try.sizeOf127
  v46 := Try.zeroValue127
  t51 := Try.underlying144
  a51 := Try.isAgg144
  z51 := Try.sizeOf144
  v51 := Try.zeroValue144
  t53 := Try.underlying146
  a53 := Try.isAgg146
  z53 := Try.sizeOf146
  v53 := Try.zeroValue146
  t131 := Try.underlying87
  a131 := Try.isAgg87
  z131 := Try.sizeOf87
  v131 := Try.zeroValue87
  t182 := Try.underlying155
  a182 := Try.isAgg155
  z182 := Try.sizeOf155
  v182 := Try.zeroValue155
  t183 := Try.underlying156
  a183 := Try.isAgg156
  z183 := Try.sizeOf156
  v183 := Try.zeroValue156
  t218 := Try.underlying167
  a218 := Try.isAgg167
  z218 := Try.sizeOf167
  v218 := Try.zeroValue167
  t222 := Try.underlying165
  a222 := Try.isAgg165
  z222 := Try.sizeOf165
  v222 := Try.zeroValue165
  t228 := Try.underlying172
  a228 := Try.isAgg172
  z228 := Try.sizeOf172
  v228 := Try.zeroValue172
  t229 := Try.underlying97
  a229 := Try.isAgg97
  z229 := Try.sizeOf97
  v229 := Try.zeroValue97 }
open Go.Sort Go.RowKit in
theorem Try.slices_Sort_int (blk off cap : Nat) (zs : List Int) (w : World) (hH : Holds (Value.int .i64) w blk off zs.toArray) (hblk : blk < w.heap.size) (hsz : zs.length < 4611686018427387904) :
    Calls Try.prog 81 #[.slice (some ⟨blk, off, none⟩) zs.length cap] w fun e w' =>
      e = .returned (.tuple #[]) ∧ ∃ n os, w' = grow (putRow (Value.int .i64) (Sort.ahead w n) blk off (zs.mergeSort fun x y => decide (x ≤ y)).toArray) os := Any.slices_Sort_int Try.lays189 blk off cap zs w hH hblk hsz
def Try.laysGg6_ren : Go.Shelf.Ren := ⟨fun | 6 => 74 | 10 => 93 | 11 => 94 | 12 => 95 | 13 => 96 | 14 => 97 | 24 => 118 | 25 => 119 | 26 => 120 | 27 => 121 | 28 => 122 | 29 => 123 | 30 => 124 | 31 => 125 | 32 => 126 | 33 => 127 | 34 => 137 | 35 => 138 | 36 => 139 | 37 => 140 | 38 => 141 | 39 => 147 | n => n, fun | 20 => 20 | 26 => 96 | 35 => 122 | 0 => 0 | 37 => 114 | 3 => 3 | 41 => 127 | 44 => 130 | 49 => 144 | 51 => 146 | 4 => 4 | 54 => 149 | 53 => 148 | 58 => 87 | 5 => 5 | 9 => 9 | 60 => 161 | 64 => 165 | 66 => 170 | 67 => 97 | 17 => 17 | 32 => 119 | 33 => 120 | 82 => 187 | 12 => 12 | 75 => 180 | 76 => 181 | 77 => 182 | 78 => 183 | 79 => 184 | 80 => 185 | n => n, fun | n => n⟩
theorem Try.laysGg6 : Go.Proofs.LaysGg.n6 Try.prog Try.laysGg6_ren := {
  mixed := by kernel_rfl
  f6 := Try.func74.trans (congrArg some (by kernel_rfl))
  f10 := Try.func93.trans (congrArg some (by kernel_rfl))
  f11 := Try.func94.trans (congrArg some (by kernel_rfl))
  f12 := Try.func95.trans (congrArg some (by kernel_rfl))
  f13 := Try.func96.trans (congrArg some (by kernel_rfl))
  f14 := Try.func97.trans (congrArg some (by kernel_rfl))
  f24 := Try.func118.trans (congrArg some (by kernel_rfl))
  f25 := Try.func119.trans (congrArg some (by kernel_rfl))
  f26 := Try.func120.trans (congrArg some (by kernel_rfl))
  f27 := Try.func121.trans (congrArg some (by kernel_rfl))
  f28 := Try.func122.trans (congrArg some (by kernel_rfl))
  f29 := Try.func123.trans (congrArg some (by kernel_rfl))
  f30 := Try.func124.trans (congrArg some (by kernel_rfl))
  f31 := Try.func125.trans (congrArg some (by kernel_rfl))
  f32 := Try.func126.trans (congrArg some (by kernel_rfl))
  f33 := Try.func127.trans (congrArg some (by kernel_rfl))
  f34 := Try.func137.trans (congrArg some (by kernel_rfl))
  f35 := Try.func138.trans (congrArg some (by kernel_rfl))
  f36 := Try.func139.trans (congrArg some (by kernel_rfl))
  f37 := Try.func140.trans (congrArg some (by kernel_rfl))
  f38 := Try.func141.trans (congrArg some (by kernel_rfl))
  f39 := Try.func147.trans (congrArg some (by kernel_rfl))
  t0 := Try.underlying0
  a0 := Try.isAgg0
  z0 := Try.sizeOf0
  v0 := Try.zeroValue0
  i0 := by kernel_rfl
  t3 := Try.underlying3
  a3 := Try.isAgg3
  z3 := Try.sizeOf3
  v3 := Try.zeroValue3
  i3 := by kernel_rfl
  t4 := Try.underlying4
  a4 := Try.isAgg4
  z4 := Try.sizeOf4
  v4 := Try.zeroValue4
  i4 := by kernel_rfl
  t5 := Try.underlying5
  a5 := Try.isAgg5
  z5 := Try.sizeOf5
  v5 := Try.zeroValue5
  i5 := by kernel_rfl
  t9 := Try.underlying9
  a9 := Try.isAgg9
  z9 := Try.sizeOf9
  v9 := Try.zeroValue9
  i9 := by kernel_rfl
  t12 := Try.underlying12
  a12 := Try.isAgg12
  z12 := Try.sizeOf12
  v12 := Try.zeroValue12
  i12 := by kernel_rfl
  t17 := Try.underlying17
  a17 := Try.isAgg17
  z17 := Try.sizeOf17
  v17 := Try.zeroValue17
  i17 := by kernel_rfl
  t20 := Try.underlying20
  a20 := Try.isAgg20
  z20 := Try.sizeOf20
  v20 := Try.zeroValue20
  i20 := by kernel_rfl
  t26 := Try.underlying96
  a26 := Try.isAgg96
  z26 := Try.sizeOf96
  v26 := Try.zeroValue96
  i26 := by kernel_rfl
  t32 := Try.underlying119
  a32 := Try.isAgg119
  z32 := Try.sizeOf119
  v32 := Try.zeroValue119
  i32 := by kernel_rfl
  t33 := Try.underlying120
  a33 := Try.isAgg120
  z33 := Try.sizeOf120
  v33 := Try.zeroValue120
  i33 := by kernel_rfl
  t35 := Try.underlying122
  a35 := Try.isAgg122
  z35 := Try.sizeOf122
  v35 := Try.zeroValue122
  i35 := by kernel_rfl
  t37 := Try.underlying114
  a37 := Try.isAgg114
  z37 := Try.sizeOf114
  v37 := Try.zeroValue114
  i37 := by kernel_rfl
  t41 := Try.underlying127
  a41 := Try.isAgg127
  z41 := Try.sizeOf127
  v41 := Try.zeroValue127
  i41 := by kernel_rfl
  t44 := Try.underlying130
  a44 := Try.isAgg130
  z44 := Try.sizeOf130
  v44 := Try.zeroValue130
  i44 := by kernel_rfl
  t49 := Try.underlying144
  a49 := Try.isAgg144
  z49 := Try.sizeOf144
  v49 := Try.zeroValue144
  i49 := by kernel_rfl
  t51 := Try.underlying146
  a51 := Try.isAgg146
  z51 := Try.sizeOf146
  v51 := Try.zeroValue146
  i51 := by kernel_rfl
  t53 := Try.underlying148
  a53 := Try.isAgg148
  z53 := Try.sizeOf148
  v53 := Try.zeroValue148
  i53 := by kernel_rfl
  t54 := Try.underlying149
  a54 := Try.isAgg149
  z54 := Try.sizeOf149
  v54 := Try.zeroValue149
  i54 := by kernel_rfl
  t58 := Try.underlying87
  a58 := Try.isAgg87
  z58 := Try.sizeOf87
  v58 := Try.zeroValue87
  i58 := by kernel_rfl
  t60 := Try.underlying161
  a60 := Try.isAgg161
  z60 := Try.sizeOf161
  v60 := Try.zeroValue161
  i60 := by kernel_rfl
  t64 := Try.underlying165
  a64 := Try.isAgg165
  z64 := Try.sizeOf165
  v64 := Try.zeroValue165
  i64 := by kernel_rfl
  t66 := Try.underlying170
  a66 := Try.isAgg170
  z66 := Try.sizeOf170
  v66 := Try.zeroValue170
  i66 := by kernel_rfl
  t67 := Try.underlying97
  a67 := Try.isAgg97
  z67 := Try.sizeOf97
  v67 := Try.zeroValue97
  i67 := by kernel_rfl
  t75 := Try.underlying180
  a75 := Try.isAgg180
  z75 := Try.sizeOf180
  v75 := Try.zeroValue180
  i75 := by kernel_rfl
  t76 := Try.underlying181
  a76 := Try.isAgg181
  z76 := Try.sizeOf181
  v76 := Try.zeroValue181
  i76 := by kernel_rfl
  t77 := Try.underlying182
  a77 := Try.isAgg182
  z77 := Try.sizeOf182
  v77 := Try.zeroValue182
  i77 := by kernel_rfl
  t78 := Try.underlying183
  a78 := Try.isAgg183
  z78 := Try.sizeOf183
  v78 := Try.zeroValue183
  i78 := by kernel_rfl
  t79 := Try.underlying184
  a79 := Try.isAgg184
  z79 := Try.sizeOf184
  v79 := Try.zeroValue184
  i79 := by kernel_rfl
  t80 := Try.underlying185
  a80 := Try.isAgg185
  z80 := Try.sizeOf185
  v80 := Try.zeroValue185
  i80 := by kernel_rfl
  t82 := Try.underlying187
  a82 := Try.isAgg187
  z82 := Try.sizeOf187
  v82 := Try.zeroValue187
  i82 := by kernel_rfl }
def Try.laysNm220_ren : Go.Shelf.Ren := ⟨fun | 20 => 82 | n => n, fun | 22 => 36 | 3 => 3 | 4 => 4 | 0 => 0 | n => n, fun | n => n⟩
theorem Try.laysNm220 : Go.Proofs.Lays2.n20 Try.prog Try.laysNm220_ren := {
  mixed := by kernel_rfl
  f20 := Try.func82.trans (congrArg some (by kernel_rfl))
  t0 := Try.underlying0
  a0 := Try.isAgg0
  z0 := Try.sizeOf0
  v0 := Try.zeroValue0
  t3 := Try.underlying3
  a3 := Try.isAgg3
  z3 := Try.sizeOf3
  v3 := Try.zeroValue3
  t4 := Try.underlying4
  a4 := Try.isAgg4
  z4 := Try.sizeOf4
  v4 := Try.zeroValue4
  t22 := Try.underlying36
  a22 := Try.isAgg36
  z22 := Try.sizeOf36
  v22 := Try.zeroValue36
  i3 := by kernel_rfl }
open Go.RowKit Go.Lib Go.Sort in
/-- slices.Compact at []int: "Compact replaces consecutive runs of equal elements with a single copy. This is like the uniq command found on Unix. Compact modifies the contents of the slice s and returns the modified slice, which may have a smaller length. Compact zeroes the elements between the new length and the original length. The result preserves the nilness of s.": IT RETURNS THE SLICE CUT TO 'Lib.compact zs'; ITS CELLS HOLD 'Lib.compact zs', THEN ZERO VALUES up to the old length; all else is as it was, but for the count of draws. IN THE WORDS OF slices.Sort's CONTRACT ('Holds', 'putRow'): so the everyday 'slices.Sort(xs); xs = slices.Compact(xs)' goes from the one contract to the other. It asks 'zs.length ≤ cap' (every slice's: the reslicing 's[:k]' looks at it). Length 0, nil: '.._empty'. (LAID: no walk: one application.) -/
theorem Try.slices_Compact_int (blk off cap : Nat) (zs : List Int) (w : World) (hH : Holds (Value.int .i64) w blk off zs.toArray) (hsz : zs.length ≤ 9223372036854775807) (hcap : zs.length ≤ cap) :
    Calls Try.prog 82 #[.slice (some ⟨blk, off, none⟩) zs.length cap] w fun e w' => e = .returned (.slice (some ⟨blk, off, none⟩) (Lib.compact zs).length cap) ∧ ∃ q, w' = putRow (Value.int .i64) (Sort.ahead w q) blk off (Lib.compact zs ++ List.replicate (zs.length - (Lib.compact zs).length) 0).toArray := Any.slices_Compact_int Try.laysNm220 blk off cap zs w hH hsz hcap
open Go.RowKit Go.Lib Go.Sort in
/-- The same at a slice of length 0, a nil one too: it comes back as it is. (LAID: no walk: one application.) -/
theorem Try.slices_Compact_int_empty (a : Option Addr) (cap : Nat) (w : World) :
    Calls Try.prog 82 #[.slice a 0 cap] w fun e w' => e = .returned (.slice a 0 cap) ∧ w' = w := Any.slices_Compact_int_empty Try.laysNm220 a cap w
open Go.RowKit Go.Sort in
/-- .. and plain. (LAID: no walk: one application.) -/
theorem Try.slices_Sort_int_none (p : Option Addr) (cap : Nat) (w : World) :
    Calls Try.prog 81 #[.slice p 0 cap] w fun e w' => e = .returned (.tuple #[]) ∧ w' = w := Any.slices_Sort_int_none Try.lays189 p cap w
end Go.Proofs
