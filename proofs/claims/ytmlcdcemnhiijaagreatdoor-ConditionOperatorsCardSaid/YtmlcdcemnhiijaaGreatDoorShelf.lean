/-
  DERIVED: THE SHELF's CONTRACTS AT THIS DUMP, IN PLAIN WORDS (tools/lay-plain.mjs out of 'TryzShelf.lean', which tools/lay-shelf.mjs wrote): THE SAME DECLARATIONS UNDER THE SAME NAMES: 'import', 'namespace', 'open', 'def', 'theorem' AND NOTHING ELSE: no command of the shelf's: FOR A HAND-IN. Each laying: the table of numbers ('.._ren') and one theorem, a field a fact of the dump's own or the kernel's comparison; each contract: ONE APPLICATION.
-/
import Derived.Shelf.Strings.Builder1
import Derived.Shelf.Strings.Builder2
import Derived.Shelf.Strings.OnBuilder
import Derived.Shelf.Strings.Trim
import Derived.Shelf.Small.Utf8
import Derived.Shelf.Small.Strs
import Derived.Shelf.Strings.BuilderF
import Derived.Shelf.Strings.Search1
import Derived.Shelf.Sort.Plain
import Derived.Ground.GgsProg
import Derived.Shelf.GgSortFunc.Tiny
import Derived.Shelf.Strings.Prefix
import Derived.Shelf.Strings.Runes
import Derived.Shelf.Strings.AsciiSet
import Derived.Shelf.Bits.Mul64
import Derived.Shelf.Strings.Repeat
import Derived.Shelf.Unicode.DecodeSlow
import Derived.Shelf.Unicode.DecodeAny
import Derived.Ground.Names2Prog
import Derived.Shelf.Slices.CompactI
import Derived.Shelf.Slices.SearchI
import Derived.Shelf.Slices.Cells
import Derived.Shelf.Slices.In.SortNone
import Derived.Shelf.SlSortFuncK.WholeK
import Derived.Test.YtmlcdcemnhiijaaGreatDoorProg
namespace Go.Proofs
open Go.Shelf
def Tryz.lays156_ren : Go.Shelf.Ren := ⟨fun | 156 => 14 | 165 => 41 | 166 => 42 | 169 => 43 | 240 => 67 | 241 => 68 | 276 => 92 | 277 => 93 | n => n, fun | 31 => 25 | 9 => 9 | 3 => 3 | 4 => 4 | 0 => 0 | 20 => 20 | 72 => 67 | 76 => 71 | 70 => 65 | 37 => 53 | 75 => 70 | 127 => 98 | 164 => 120 | 5 => 5 | 80 => 73 | n => n, fun | n => n⟩
theorem Tryz.lays156 : Go.Proofs.Lays.n156 Tryz.prog Tryz.lays156_ren := {
  mixed := by kernel_rfl
  f156 := Tryz.func14.trans (congrArg some (by kernel_rfl))
  f165 := Tryz.func41.trans (congrArg some (by kernel_rfl))
  f166 := Tryz.func42.trans (congrArg some (by kernel_rfl))
  f169 := Tryz.func43.trans (congrArg some (by kernel_rfl))
  f240 := Tryz.func67.trans (congrArg some (by kernel_rfl))
  f241 := Tryz.func68.trans (congrArg some (by kernel_rfl))
  f276 := Tryz.func92.trans (congrArg some (by kernel_rfl))
  f277 := Tryz.func93.trans (congrArg some (by kernel_rfl))
  t0 := Tryz.underlying0
  a0 := Tryz.isAgg0
  z0 := Tryz.sizeOf0
  v0 := Tryz.zeroValue0
  t3 := Tryz.underlying3
  a3 := Tryz.isAgg3
  z3 := Tryz.sizeOf3
  v3 := Tryz.zeroValue3
  t4 := Tryz.underlying4
  a4 := Tryz.isAgg4
  z4 := Tryz.sizeOf4
  v4 := Tryz.zeroValue4
  t9 := Tryz.underlying9
  a9 := Tryz.isAgg9
  z9 := Tryz.sizeOf9
  v9 := Tryz.zeroValue9
  t20 := Tryz.underlying20
  a20 := Tryz.isAgg20
  z20 := Tryz.sizeOf20
  v20 := Tryz.zeroValue20
  t31 := Tryz.underlying25
  a31 := Tryz.isAgg25
  z31 := Tryz.sizeOf25
  v31 := Tryz.zeroValue25
  t37 := Tryz.underlying53
  a37 := Tryz.isAgg53
  z37 := Tryz.sizeOf53
  v37 := Tryz.zeroValue53
  t70 := Tryz.underlying65
  a70 := Tryz.isAgg65
  z70 := Tryz.sizeOf65
  v70 := Tryz.zeroValue65
  t72 := Tryz.underlying67
  a72 := Tryz.isAgg67
  z72 := Tryz.sizeOf67
  v72 := Tryz.zeroValue67
  t75 := Tryz.underlying70
  a75 := Tryz.isAgg70
  z75 := Tryz.sizeOf70
  v75 := Tryz.zeroValue70
  t76 := Tryz.underlying71
  a76 := Tryz.isAgg71
  z76 := Tryz.sizeOf71
  v76 := Tryz.zeroValue71
  t127 := Tryz.underlying98
  a127 := Tryz.isAgg98
  z127 := Tryz.sizeOf98
  v127 := Tryz.zeroValue98
  t164 := Tryz.underlying120
  a164 := Tryz.isAgg120
  z164 := Tryz.sizeOf120
  v164 := Tryz.zeroValue120 }
def Tryz.lays160_ren : Go.Shelf.Ren := ⟨fun | 160 => 40 | 232 => 61 | 231 => 60 | 227 => 62 | 234 => 64 | 233 => 63 | 236 => 66 | 235 => 65 | 228 => 88 | 271 => 91 | 151 => 90 | 197 => 89 | 120 => 112 | 152 => 111 | 260 => 110 | 137 => 123 | 119 => 124 | 224 => 125 | 225 => 126 | 217 => 150 | 266 => 181 | n => n, fun | 9 => 9 | 4 => 4 | 3 => 3 | 5 => 5 | 117 => 94 | 116 => 93 | 0 => 0 | 124 => 97 | 21 => 21 | 105 => 117 | 46 => 99 | 119 => 144 | 139 => 147 | 138 => 146 | n => n, fun | 3 => 1 | 4 => 2 | n => n⟩
theorem Tryz.lays160 : Go.Proofs.Lays.n160 Tryz.prog Tryz.lays160_ren := {
  mixed := by kernel_rfl
  f119 := Tryz.func124.trans (congrArg some (by kernel_rfl))
  f120 := Tryz.func112.trans (congrArg some (by kernel_rfl))
  f137 := Tryz.func123.trans (congrArg some (by kernel_rfl))
  f151 := Tryz.func90.trans (congrArg some (by kernel_rfl))
  f152 := Tryz.func111.trans (congrArg some (by kernel_rfl))
  f160 := Tryz.func40.trans (congrArg some (by kernel_rfl))
  f197 := Tryz.func89.trans (congrArg some (by kernel_rfl))
  f217 := Tryz.func150.trans (congrArg some (by kernel_rfl))
  f224 := Tryz.func125.trans (congrArg some (by kernel_rfl))
  f225 := Tryz.func126.trans (congrArg some (by kernel_rfl))
  f227 := Tryz.func62.trans (congrArg some (by kernel_rfl))
  f228 := Tryz.func88.trans (congrArg some (by kernel_rfl))
  f231 := Tryz.func60.trans (congrArg some (by kernel_rfl))
  f232 := Tryz.func61.trans (congrArg some (by kernel_rfl))
  f233 := Tryz.func63.trans (congrArg some (by kernel_rfl))
  f234 := Tryz.func64.trans (congrArg some (by kernel_rfl))
  f235 := Tryz.func65.trans (congrArg some (by kernel_rfl))
  f236 := Tryz.func66.trans (congrArg some (by kernel_rfl))
  f260 := Tryz.func110.trans (congrArg some (by kernel_rfl))
  f266 := Tryz.func181.trans (congrArg some (by kernel_rfl))
  f271 := Tryz.func91.trans (congrArg some (by kernel_rfl))
  t0 := Tryz.underlying0
  a0 := Tryz.isAgg0
  z0 := Tryz.sizeOf0
  v0 := Tryz.zeroValue0
  t3 := Tryz.underlying3
  a3 := Tryz.isAgg3
  z3 := Tryz.sizeOf3
  v3 := Tryz.zeroValue3
  t4 := Tryz.underlying4
  a4 := Tryz.isAgg4
  z4 := Tryz.sizeOf4
  v4 := Tryz.zeroValue4
  t5 := Tryz.underlying5
  a5 := Tryz.isAgg5
  z5 := Tryz.sizeOf5
  v5 := Tryz.zeroValue5
  t9 := Tryz.underlying9
  a9 := Tryz.isAgg9
  z9 := Tryz.sizeOf9
  v9 := Tryz.zeroValue9
  t21 := Tryz.underlying21
  a21 := Tryz.isAgg21
  z21 := Tryz.sizeOf21
  v21 := Tryz.zeroValue21
  t46 := Tryz.underlying99
  a46 := Tryz.isAgg99
  z46 := Tryz.sizeOf99
  v46 := Tryz.zeroValue99
  t105 := Tryz.underlying117
  a105 := Tryz.isAgg117
  z105 := Tryz.sizeOf117
  v105 := Tryz.zeroValue117
  t116 := Tryz.underlying93
  a116 := Tryz.isAgg93
  z116 := Tryz.sizeOf93
  t117 := Tryz.underlying94
  a117 := Tryz.isAgg94
  z117 := Tryz.sizeOf94
  v117 := Tryz.zeroValue94
  t119 := Tryz.underlying144
  a119 := Tryz.isAgg144
  z119 := Tryz.sizeOf144
  t124 := Tryz.underlying97
  a124 := Tryz.isAgg97
  z124 := Tryz.sizeOf97
  v124 := Tryz.zeroValue97
  t138 := Tryz.underlying146
  a138 := Tryz.isAgg146
  z138 := Tryz.sizeOf146
  v138 := Tryz.zeroValue146
  t139 := Tryz.underlying147
  a139 := Tryz.isAgg147
  z139 := Tryz.sizeOf147
  v139 := Tryz.zeroValue147
  g3 := by kernel_rfl
  g4 := by kernel_rfl }
open Go.RowKit in
/-- strings.Trim: "Trim returns a slice of the string s with all leading and trailing Unicode code points contained in cutset removed.": AT A cutset OF ONE ASCII BYTE. THE WORLD BEHIND IT: as it was, or (where s is not empty) with ONE DRAW MORE off the tape: the statement 'return trimLeftByte(trimRightByte(s, c), c)' draws its order of evaluation. (LAID: no walk: one application.) -/
theorem Tryz.strings_Trim_one (s : ByteArray) (c : UInt8) (hc : c.toNat < 128) (w : World) (hs : s.size ≤ 9223372036854775807) :
    Calls Tryz.prog 40 #[.string s, .string ⟨#[c]⟩] w fun e w' => e = .returned (.string ⟨(Lib.trimB s.data.toList c).toArray⟩) ∧ (w' = w ∨ w' = w.drew) := Any.strings_Trim_one Tryz.lays160 s c hc w hs
def Tryz.lays106_ren : Go.Shelf.Ren := ⟨fun | 106 => 32 | 213 => 51 | 265 => 77 | n => n, fun | 9 => 9 | 3 => 3 | n => n, fun | n => n⟩
theorem Tryz.lays106 : Go.Proofs.Lays.n106 Tryz.prog Tryz.lays106_ren := {
  mixed := by kernel_rfl
  f106 := Tryz.func32.trans (congrArg some (by kernel_rfl))
  f213 := Tryz.func51.trans (congrArg some (by kernel_rfl))
  f265 := Tryz.func77.trans (congrArg some (by kernel_rfl))
  t3 := Tryz.underlying3
  a3 := Tryz.isAgg3
  z3 := Tryz.sizeOf3
  v3 := Tryz.zeroValue3
  t9 := Tryz.underlying9
  a9 := Tryz.isAgg9
  z9 := Tryz.sizeOf9
  v9 := Tryz.zeroValue9 }
open Go.RowKit in
/-- strings.Compare: "Compare returns an integer comparing two strings lexicographically. The result will be 0 if a == b, -1 if a < b, and +1 if a > b.": IT RETURNS 'Lib.compareBytes a b'; the world is as it was. (LAID: no walk: one application.) -/
theorem Tryz.strings_Compare (a b : ByteArray) (w : World) :
    Calls Tryz.prog 32 #[.string a, .string b] w fun e w' => e = .returned (.int .i64 (Lib.compareBytes a.data.toList b.data.toList)) ∧ w' = w := Any.strings_Compare Tryz.lays106 a b w
def Tryz.lays189_ren : Go.Shelf.Ren := ⟨fun | 189 => 108 | 125 => 122 | 257 => 121 | 128 => 148 | 129 => 149 | 294 => 139 | 295 => 140 | 296 => 141 | 297 => 142 | 298 => 143 | 299 => 144 | 216 => 145 | 300 => 146 | 301 => 147 | 328 => 176 | 329 => 177 | 330 => 178 | 331 => 179 | 332 => 180 | 215 => 102 | 343 => 192 | n => n, fun | 28 => 114 | 3 => 3 | 46 => 99 | 0 => 0 | 51 => 123 | 53 => 126 | 4 => 4 | 183 => 168 | 182 => 167 | 131 => 58 | 5 => 5 | 9 => 9 | 218 => 190 | 222 => 194 | 228 => 202 | 229 => 203 | n => n, fun | n => n⟩
theorem Tryz.lays189 : Go.Proofs.Lays.n189 Tryz.prog Tryz.lays189_ren := {
  mixed := by kernel_rfl
  f125 := Tryz.func122.trans (congrArg some (by kernel_rfl))
  f128 := Tryz.func148.trans (congrArg some (by kernel_rfl))
  f129 := Tryz.func149.trans (congrArg some (by kernel_rfl))
  f189 := Tryz.func108.trans (congrArg some (by kernel_rfl))
  f215 := Tryz.func102.trans (congrArg some (by kernel_rfl))
  f216 := Tryz.func145.trans (congrArg some (by kernel_rfl))
  f257 := Tryz.func121.trans (congrArg some (by kernel_rfl))
  f294 := Tryz.func139.trans (congrArg some (by kernel_rfl))
  f295 := Tryz.func140.trans (congrArg some (by kernel_rfl))
  f296 := Tryz.func141.trans (congrArg some (by kernel_rfl))
  f297 := Tryz.func142.trans (congrArg some (by kernel_rfl))
  f298 := Tryz.func143.trans (congrArg some (by kernel_rfl))
  f299 := Tryz.func144.trans (congrArg some (by kernel_rfl))
  f300 := Tryz.func146.trans (congrArg some (by kernel_rfl))
  f301 := Tryz.func147.trans (congrArg some (by kernel_rfl))
  f328 := Tryz.func176.trans (congrArg some (by kernel_rfl))
  f329 := Tryz.func177.trans (congrArg some (by kernel_rfl))
  f330 := Tryz.func178.trans (congrArg some (by kernel_rfl))
  f331 := Tryz.func179.trans (congrArg some (by kernel_rfl))
  f332 := Tryz.func180.trans (congrArg some (by kernel_rfl))
  f343 := Tryz.func192.trans (congrArg some (by kernel_rfl))
  t0 := Tryz.underlying0
  a0 := Tryz.isAgg0
  z0 := Tryz.sizeOf0
  v0 := Tryz.zeroValue0
  t3 := Tryz.underlying3
  a3 := Tryz.isAgg3
  z3 := Tryz.sizeOf3
  v3 := Tryz.zeroValue3
  t4 := Tryz.underlying4
  a4 := Tryz.isAgg4
  z4 := Tryz.sizeOf4
  v4 := Tryz.zeroValue4
  t5 := Tryz.underlying5
  a5 := Tryz.isAgg5
  z5 := Tryz.sizeOf5
  v5 := Tryz.zeroValue5
  t9 := Tryz.underlying9
  a9 := Tryz.isAgg9
  z9 := Tryz.sizeOf9
  v9 := Tryz.zeroValue9
  t28 := Tryz.underlying114
  a28 := Tryz.isAgg114
  z28 := Tryz.sizeOf114
  v28 := Tryz.zeroValue114
  t46 := Tryz.underlying99
  a46 := Tryz.isAgg99
  z46 := Tryz.sizeOf99
  v46 := Tryz.zeroValue99
  t51 := Tryz.underlying123
  a51 := Tryz.isAgg123
  z51 := Tryz.sizeOf123
  v51 := Tryz.zeroValue123
  t53 := Tryz.underlying126
  a53 := Tryz.isAgg126
  z53 := Tryz.sizeOf126
  v53 := Tryz.zeroValue126
  t131 := Tryz.underlying58
  a131 := Tryz.isAgg58
  z131 := Tryz.sizeOf58
  v131 := Tryz.zeroValue58
  t182 := Tryz.underlying167
  a182 := Tryz.isAgg167
  z182 := Tryz.sizeOf167
  v182 := Tryz.zeroValue167
  t183 := Tryz.underlying168
  a183 := Tryz.isAgg168
  z183 := Tryz.sizeOf168
  v183 := Tryz.zeroValue168
  t218 := Tryz.underlying190
  a218 := Tryz.isAgg190
  z218 := Tryz.sizeOf190
  v218 := Tryz.zeroValue190
  t222 := Tryz.underlying194
  a222 := Tryz.isAgg194
  z222 := Tryz.sizeOf194
  v222 := Tryz.zeroValue194
  t228 := Tryz.underlying202
  a228 := Tryz.isAgg202
  z228 := Tryz.sizeOf202
  v228 := Tryz.zeroValue202
  t229 := Tryz.underlying203
  a229 := Tryz.isAgg203
  z229 := Tryz.sizeOf203
  v229 := Tryz.zeroValue203 }
open Go.Sort Go.RowKit in
theorem Tryz.slices_Sort_int (blk off cap : Nat) (zs : List Int) (w : World) (hH : Holds (Value.int .i64) w blk off zs.toArray) (hblk : blk < w.heap.size) (hsz : zs.length < 4611686018427387904) :
    Calls Tryz.prog 108 #[.slice (some ⟨blk, off, none⟩) zs.length cap] w fun e w' =>
      e = .returned (.tuple #[]) ∧ ∃ n os, w' = grow (putRow (Value.int .i64) (Sort.ahead w n) blk off (zs.mergeSort fun x y => decide (x ≤ y)).toArray) os := Any.slices_Sort_int Tryz.lays189 blk off cap zs w hH hblk hsz
def Tryz.laysGg6_ren : Go.Shelf.Ren := ⟨fun | 6 => 119 | 10 => 135 | 11 => 136 | 12 => 137 | 13 => 122 | 14 => 138 | 24 => 148 | 25 => 149 | 26 => 168 | 27 => 169 | 28 => 170 | 29 => 171 | 30 => 172 | 31 => 173 | 32 => 174 | 33 => 175 | 34 => 187 | 35 => 188 | 36 => 189 | 37 => 190 | 38 => 191 | 39 => 195 | n => n, fun | 20 => 20 | 26 => 60 | 35 => 159 | 0 => 0 | 37 => 161 | 3 => 3 | 41 => 99 | 44 => 165 | 49 => 123 | 51 => 126 | 4 => 4 | 54 => 185 | 53 => 184 | 58 => 58 | 5 => 5 | 9 => 9 | 60 => 199 | 64 => 194 | 66 => 205 | 67 => 203 | 17 => 17 | 32 => 120 | 33 => 157 | 82 => 220 | 12 => 12 | 75 => 214 | 76 => 215 | 77 => 216 | 78 => 98 | 79 => 217 | 80 => 218 | n => n, fun | n => n⟩
theorem Tryz.laysGg6 : Go.Proofs.LaysGg.n6 Tryz.prog Tryz.laysGg6_ren := {
  mixed := by kernel_rfl
  f6 := Tryz.func119.trans (congrArg some (by kernel_rfl))
  f10 := Tryz.func135.trans (congrArg some (by kernel_rfl))
  f11 := Tryz.func136.trans (congrArg some (by kernel_rfl))
  f12 := Tryz.func137.trans (congrArg some (by kernel_rfl))
  f13 := Tryz.func122.trans (congrArg some (by kernel_rfl))
  f14 := Tryz.func138.trans (congrArg some (by kernel_rfl))
  f24 := Tryz.func148.trans (congrArg some (by kernel_rfl))
  f25 := Tryz.func149.trans (congrArg some (by kernel_rfl))
  f26 := Tryz.func168.trans (congrArg some (by kernel_rfl))
  f27 := Tryz.func169.trans (congrArg some (by kernel_rfl))
  f28 := Tryz.func170.trans (congrArg some (by kernel_rfl))
  f29 := Tryz.func171.trans (congrArg some (by kernel_rfl))
  f30 := Tryz.func172.trans (congrArg some (by kernel_rfl))
  f31 := Tryz.func173.trans (congrArg some (by kernel_rfl))
  f32 := Tryz.func174.trans (congrArg some (by kernel_rfl))
  f33 := Tryz.func175.trans (congrArg some (by kernel_rfl))
  f34 := Tryz.func187.trans (congrArg some (by kernel_rfl))
  f35 := Tryz.func188.trans (congrArg some (by kernel_rfl))
  f36 := Tryz.func189.trans (congrArg some (by kernel_rfl))
  f37 := Tryz.func190.trans (congrArg some (by kernel_rfl))
  f38 := Tryz.func191.trans (congrArg some (by kernel_rfl))
  f39 := Tryz.func195.trans (congrArg some (by kernel_rfl))
  t0 := Tryz.underlying0
  a0 := Tryz.isAgg0
  z0 := Tryz.sizeOf0
  v0 := Tryz.zeroValue0
  i0 := by kernel_rfl
  t3 := Tryz.underlying3
  a3 := Tryz.isAgg3
  z3 := Tryz.sizeOf3
  v3 := Tryz.zeroValue3
  i3 := by kernel_rfl
  t4 := Tryz.underlying4
  a4 := Tryz.isAgg4
  z4 := Tryz.sizeOf4
  v4 := Tryz.zeroValue4
  i4 := by kernel_rfl
  t5 := Tryz.underlying5
  a5 := Tryz.isAgg5
  z5 := Tryz.sizeOf5
  v5 := Tryz.zeroValue5
  i5 := by kernel_rfl
  t9 := Tryz.underlying9
  a9 := Tryz.isAgg9
  z9 := Tryz.sizeOf9
  v9 := Tryz.zeroValue9
  i9 := by kernel_rfl
  t12 := Tryz.underlying12
  a12 := Tryz.isAgg12
  z12 := Tryz.sizeOf12
  v12 := Tryz.zeroValue12
  i12 := by kernel_rfl
  t17 := Tryz.underlying17
  a17 := Tryz.isAgg17
  z17 := Tryz.sizeOf17
  v17 := Tryz.zeroValue17
  i17 := by kernel_rfl
  t20 := Tryz.underlying20
  a20 := Tryz.isAgg20
  z20 := Tryz.sizeOf20
  v20 := Tryz.zeroValue20
  i20 := by kernel_rfl
  t26 := Tryz.underlying60
  a26 := Tryz.isAgg60
  z26 := Tryz.sizeOf60
  v26 := Tryz.zeroValue60
  i26 := by kernel_rfl
  t32 := Tryz.underlying120
  a32 := Tryz.isAgg120
  z32 := Tryz.sizeOf120
  v32 := Tryz.zeroValue120
  i32 := by kernel_rfl
  t33 := Tryz.underlying157
  a33 := Tryz.isAgg157
  z33 := Tryz.sizeOf157
  v33 := Tryz.zeroValue157
  i33 := by kernel_rfl
  t35 := Tryz.underlying159
  a35 := Tryz.isAgg159
  z35 := Tryz.sizeOf159
  v35 := Tryz.zeroValue159
  i35 := by kernel_rfl
  t37 := Tryz.underlying161
  a37 := Tryz.isAgg161
  z37 := Tryz.sizeOf161
  v37 := Tryz.zeroValue161
  i37 := by kernel_rfl
  t41 := Tryz.underlying99
  a41 := Tryz.isAgg99
  z41 := Tryz.sizeOf99
  v41 := Tryz.zeroValue99
  i41 := by kernel_rfl
  t44 := Tryz.underlying165
  a44 := Tryz.isAgg165
  z44 := Tryz.sizeOf165
  v44 := Tryz.zeroValue165
  i44 := by kernel_rfl
  t49 := Tryz.underlying123
  a49 := Tryz.isAgg123
  z49 := Tryz.sizeOf123
  v49 := Tryz.zeroValue123
  i49 := by kernel_rfl
  t51 := Tryz.underlying126
  a51 := Tryz.isAgg126
  z51 := Tryz.sizeOf126
  v51 := Tryz.zeroValue126
  i51 := by kernel_rfl
  t53 := Tryz.underlying184
  a53 := Tryz.isAgg184
  z53 := Tryz.sizeOf184
  v53 := Tryz.zeroValue184
  i53 := by kernel_rfl
  t54 := Tryz.underlying185
  a54 := Tryz.isAgg185
  z54 := Tryz.sizeOf185
  v54 := Tryz.zeroValue185
  i54 := by kernel_rfl
  t58 := Tryz.underlying58
  a58 := Tryz.isAgg58
  z58 := Tryz.sizeOf58
  v58 := Tryz.zeroValue58
  i58 := by kernel_rfl
  t60 := Tryz.underlying199
  a60 := Tryz.isAgg199
  z60 := Tryz.sizeOf199
  v60 := Tryz.zeroValue199
  i60 := by kernel_rfl
  t64 := Tryz.underlying194
  a64 := Tryz.isAgg194
  z64 := Tryz.sizeOf194
  v64 := Tryz.zeroValue194
  i64 := by kernel_rfl
  t66 := Tryz.underlying205
  a66 := Tryz.isAgg205
  z66 := Tryz.sizeOf205
  v66 := Tryz.zeroValue205
  i66 := by kernel_rfl
  t67 := Tryz.underlying203
  a67 := Tryz.isAgg203
  z67 := Tryz.sizeOf203
  v67 := Tryz.zeroValue203
  i67 := by kernel_rfl
  t75 := Tryz.underlying214
  a75 := Tryz.isAgg214
  z75 := Tryz.sizeOf214
  v75 := Tryz.zeroValue214
  i75 := by kernel_rfl
  t76 := Tryz.underlying215
  a76 := Tryz.isAgg215
  z76 := Tryz.sizeOf215
  v76 := Tryz.zeroValue215
  i76 := by kernel_rfl
  t77 := Tryz.underlying216
  a77 := Tryz.isAgg216
  z77 := Tryz.sizeOf216
  v77 := Tryz.zeroValue216
  i77 := by kernel_rfl
  t78 := Tryz.underlying98
  a78 := Tryz.isAgg98
  z78 := Tryz.sizeOf98
  v78 := Tryz.zeroValue98
  i78 := by kernel_rfl
  t79 := Tryz.underlying217
  a79 := Tryz.isAgg217
  z79 := Tryz.sizeOf217
  v79 := Tryz.zeroValue217
  i79 := by kernel_rfl
  t80 := Tryz.underlying218
  a80 := Tryz.isAgg218
  z80 := Tryz.sizeOf218
  v80 := Tryz.zeroValue218
  i80 := by kernel_rfl
  t82 := Tryz.underlying220
  a82 := Tryz.isAgg220
  z82 := Tryz.sizeOf220
  v82 := Tryz.zeroValue220
  i82 := by kernel_rfl }
def Tryz.lays105_ren : Go.Shelf.Ren := ⟨fun | 105 => 45 | 212 => 69 | 99 => 70 | 165 => 41 | 166 => 42 | 170 => 71 | 169 => 43 | 263 => 94 | 264 => 95 | 206 => 96 | 240 => 67 | 241 => 68 | 276 => 92 | 277 => 93 | n => n, fun | 9 => 9 | 3 => 3 | 4 => 4 | 20 => 20 | 0 => 0 | 46 => 99 | 109 => 100 | 5 => 5 | 72 => 67 | 76 => 71 | 51 => 123 | 146 => 124 | 53 => 126 | 148 => 127 | 70 => 65 | 37 => 53 | 75 => 70 | 127 => 98 | 164 => 120 | 80 => 73 | n => n, fun | n => n⟩
theorem Tryz.lays105 : Go.Proofs.Lays.n105 Tryz.prog Tryz.lays105_ren := {
  mixed := by kernel_rfl
  f99 := Tryz.func70.trans (congrArg some (by kernel_rfl))
  f105 := Tryz.func45.trans (congrArg some (by kernel_rfl))
  f165 := Tryz.func41.trans (congrArg some (by kernel_rfl))
  f166 := Tryz.func42.trans (congrArg some (by kernel_rfl))
  f169 := Tryz.func43.trans (congrArg some (by kernel_rfl))
  f170 := Tryz.func71.trans (congrArg some (by kernel_rfl))
  f206 := Tryz.func96.trans (congrArg some (by kernel_rfl))
  f212 := Tryz.func69.trans (congrArg some (by kernel_rfl))
  f240 := Tryz.func67.trans (congrArg some (by kernel_rfl))
  f241 := Tryz.func68.trans (congrArg some (by kernel_rfl))
  f263 := Tryz.func94.trans (congrArg some (by kernel_rfl))
  f264 := Tryz.func95.trans (congrArg some (by kernel_rfl))
  f276 := Tryz.func92.trans (congrArg some (by kernel_rfl))
  f277 := Tryz.func93.trans (congrArg some (by kernel_rfl))
  t0 := Tryz.underlying0
  a0 := Tryz.isAgg0
  z0 := Tryz.sizeOf0
  v0 := Tryz.zeroValue0
  t3 := Tryz.underlying3
  a3 := Tryz.isAgg3
  z3 := Tryz.sizeOf3
  v3 := Tryz.zeroValue3
  t4 := Tryz.underlying4
  a4 := Tryz.isAgg4
  z4 := Tryz.sizeOf4
  v4 := Tryz.zeroValue4
  t5 := Tryz.underlying5
  a5 := Tryz.isAgg5
  z5 := Tryz.sizeOf5
  v5 := Tryz.zeroValue5
  t9 := Tryz.underlying9
  a9 := Tryz.isAgg9
  z9 := Tryz.sizeOf9
  v9 := Tryz.zeroValue9
  t20 := Tryz.underlying20
  a20 := Tryz.isAgg20
  z20 := Tryz.sizeOf20
  v20 := Tryz.zeroValue20
  t37 := Tryz.underlying53
  a37 := Tryz.isAgg53
  z37 := Tryz.sizeOf53
  v37 := Tryz.zeroValue53
  t46 := Tryz.underlying99
  a46 := Tryz.isAgg99
  z46 := Tryz.sizeOf99
  v46 := Tryz.zeroValue99
  t51 := Tryz.underlying123
  a51 := Tryz.isAgg123
  z51 := Tryz.sizeOf123
  v51 := Tryz.zeroValue123
  t53 := Tryz.underlying126
  a53 := Tryz.isAgg126
  z53 := Tryz.sizeOf126
  v53 := Tryz.zeroValue126
  t70 := Tryz.underlying65
  a70 := Tryz.isAgg65
  z70 := Tryz.sizeOf65
  v70 := Tryz.zeroValue65
  t72 := Tryz.underlying67
  a72 := Tryz.isAgg67
  z72 := Tryz.sizeOf67
  v72 := Tryz.zeroValue67
  t75 := Tryz.underlying70
  a75 := Tryz.isAgg70
  z75 := Tryz.sizeOf70
  v75 := Tryz.zeroValue70
  t76 := Tryz.underlying71
  a76 := Tryz.isAgg71
  z76 := Tryz.sizeOf71
  v76 := Tryz.zeroValue71
  t109 := Tryz.underlying100
  a109 := Tryz.isAgg100
  z109 := Tryz.sizeOf100
  v109 := Tryz.zeroValue100
  t127 := Tryz.underlying98
  a127 := Tryz.isAgg98
  z127 := Tryz.sizeOf98
  v127 := Tryz.zeroValue98
  t146 := Tryz.underlying124
  a146 := Tryz.isAgg124
  z146 := Tryz.sizeOf124
  v146 := Tryz.zeroValue124
  t148 := Tryz.underlying127
  a148 := Tryz.isAgg127
  z148 := Tryz.sizeOf127
  v148 := Tryz.zeroValue127
  t164 := Tryz.underlying120
  a164 := Tryz.isAgg120
  z164 := Tryz.sizeOf120
  v164 := Tryz.zeroValue120 }
def Tryz.laysNm220_ren : Go.Shelf.Ren := ⟨fun | 20 => 109 | n => n, fun | 22 => 114 | 3 => 3 | 4 => 4 | 0 => 0 | n => n, fun | n => n⟩
theorem Tryz.laysNm220 : Go.Proofs.Lays2.n20 Tryz.prog Tryz.laysNm220_ren := {
  mixed := by kernel_rfl
  f20 := Tryz.func109.trans (congrArg some (by kernel_rfl))
  t0 := Tryz.underlying0
  a0 := Tryz.isAgg0
  z0 := Tryz.sizeOf0
  v0 := Tryz.zeroValue0
  t3 := Tryz.underlying3
  a3 := Tryz.isAgg3
  z3 := Tryz.sizeOf3
  v3 := Tryz.zeroValue3
  t4 := Tryz.underlying4
  a4 := Tryz.isAgg4
  z4 := Tryz.sizeOf4
  v4 := Tryz.zeroValue4
  t22 := Tryz.underlying114
  a22 := Tryz.isAgg114
  z22 := Tryz.sizeOf114
  v22 := Tryz.zeroValue114
  i3 := by kernel_rfl }
open Go.RowKit Go.Lib Go.Sort in
/-- slices.Compact at []int: "Compact replaces consecutive runs of equal elements with a single copy. This is like the uniq command found on Unix. Compact modifies the contents of the slice s and returns the modified slice, which may have a smaller length. Compact zeroes the elements between the new length and the original length. The result preserves the nilness of s.": IT RETURNS THE SLICE CUT TO 'Lib.compact zs'; ITS CELLS HOLD 'Lib.compact zs', THEN ZERO VALUES up to the old length; all else is as it was, but for the count of draws. IN THE WORDS OF slices.Sort's CONTRACT ('Holds', 'putRow'): so the everyday 'slices.Sort(xs); xs = slices.Compact(xs)' goes from the one contract to the other. It asks 'zs.length ≤ cap' (every slice's: the reslicing 's[:k]' looks at it). Length 0, nil: '.._empty'. (LAID: no walk: one application.) -/
theorem Tryz.slices_Compact_int (blk off cap : Nat) (zs : List Int) (w : World) (hH : Holds (Value.int .i64) w blk off zs.toArray) (hsz : zs.length ≤ 9223372036854775807) (hcap : zs.length ≤ cap) :
    Calls Tryz.prog 109 #[.slice (some ⟨blk, off, none⟩) zs.length cap] w fun e w' => e = .returned (.slice (some ⟨blk, off, none⟩) (Lib.compact zs).length cap) ∧ ∃ q, w' = putRow (Value.int .i64) (Sort.ahead w q) blk off (Lib.compact zs ++ List.replicate (zs.length - (Lib.compact zs).length) 0).toArray := Any.slices_Compact_int Tryz.laysNm220 blk off cap zs w hH hsz hcap
open Go.RowKit Go.Lib Go.Sort in
/-- The same at a slice of length 0, a nil one too: it comes back as it is. (LAID: no walk: one application.) -/
theorem Tryz.slices_Compact_int_empty (a : Option Addr) (cap : Nat) (w : World) :
    Calls Tryz.prog 109 #[.slice a 0 cap] w fun e w' => e = .returned (.slice a 0 cap) ∧ w' = w := Any.slices_Compact_int_empty Tryz.laysNm220 a cap w
open Go.RowKit Go.Sort in
/-- .. and plain. (LAID: no walk: one application.) -/
theorem Tryz.slices_Sort_int_none (p : Option Addr) (cap : Nat) (w : World) :
    Calls Tryz.prog 108 #[.slice p 0 cap] w fun e w' => e = .returned (.tuple #[]) ∧ w' = w := Any.slices_Sort_int_none Tryz.lays189 p cap w
end Go.Proofs
