/-
  DERIVED: THE SHELF's CONTRACTS AT THIS DUMP, IN PLAIN WORDS (tools/lay-plain.mjs out of 'TryShelf.lean', which tools/lay-shelf.mjs wrote): THE SAME DECLARATIONS UNDER THE SAME NAMES: 'import', 'namespace', 'open', 'def', 'theorem' AND NOTHING ELSE: no command of the shelf's: FOR A HAND-IN. Each laying: the table of numbers ('.._ren') and one theorem, a field a fact of the dump's own or the kernel's comparison; each contract: ONE APPLICATION.
-/
import Derived.Shelf.Sort.Plain
import Derived.Shelf.Slices.Clone
import Derived.Shelf.Slices.CompactI
import Derived.Shelf.Lays2
import Derived.Test.YtmdnbmdkommmkaaProg
namespace Go.Proofs
open Go.Shelf
def Try.lays189_ren : Go.Shelf.Ren := ⟨fun | 189 => 78 | 125 => 92 | 257 => 91 | 128 => 105 | 129 => 106 | 294 => 96 | 295 => 97 | 296 => 98 | 297 => 99 | 298 => 100 | 299 => 101 | 216 => 102 | 300 => 103 | 301 => 104 | 328 => 108 | 329 => 109 | 330 => 110 | 331 => 111 | 332 => 112 | 215 => 113 | 343 => 116 | n => n, fun | 28 => 24 | 3 => 3 | 46 => 110 | 0 => 0 | 51 => 123 | 53 => 66 | 4 => 4 | 183 => 116 | 182 => 115 | 131 => 120 | 5 => 5 | 9 => 9 | 218 => 126 | 222 => 130 | 228 => 133 | 229 => 134 | n => n, fun | n => n⟩
theorem Try.lays189 : Go.Proofs.Lays.n189 Try.prog Try.lays189_ren := {
  mixed := by kernel_rfl
  f125 := Try.func92.trans (congrArg some (by kernel_rfl))
  f128 := Try.func105.trans (congrArg some (by kernel_rfl))
  f129 := Try.func106.trans (congrArg some (by kernel_rfl))
  f189 := Try.func78.trans (congrArg some (by kernel_rfl))
  f215 := Try.func113.trans (congrArg some (by kernel_rfl))
  f216 := Try.func102.trans (congrArg some (by kernel_rfl))
  f257 := Try.func91.trans (congrArg some (by kernel_rfl))
  f294 := Try.func96.trans (congrArg some (by kernel_rfl))
  f295 := Try.func97.trans (congrArg some (by kernel_rfl))
  f296 := Try.func98.trans (congrArg some (by kernel_rfl))
  f297 := Try.func99.trans (congrArg some (by kernel_rfl))
  f298 := Try.func100.trans (congrArg some (by kernel_rfl))
  f299 := Try.func101.trans (congrArg some (by kernel_rfl))
  f300 := Try.func103.trans (congrArg some (by kernel_rfl))
  f301 := Try.func104.trans (congrArg some (by kernel_rfl))
  f328 := Try.func108.trans (congrArg some (by kernel_rfl))
  f329 := Try.func109.trans (congrArg some (by kernel_rfl))
  f330 := Try.func110.trans (congrArg some (by kernel_rfl))
  f331 := Try.func111.trans (congrArg some (by kernel_rfl))
  f332 := Try.func112.trans (congrArg some (by kernel_rfl))
  f343 := Try.func116.trans (congrArg some (by kernel_rfl))
  t0 := Try.underlying0
  a0 := Try.isAgg0
  z0 := Try.sizeOf0
  v0 := Try.zeroValue0
  t3 := Try.underlying3
  a3 := Try.isAgg3
  z3 := Try.sizeOf3
  v3 := Try.zeroValue3
  t4 := Try.underlying4
  a4 := Try.isAgg4
  z4 := Try.sizeOf4
  v4 := Try.zeroValue4
  t5 := Try.underlying5
  a5 := Try.isAgg5
  z5 := Try.sizeOf5
  v5 := Try.zeroValue5
  t9 := Try.underlying9
  a9 := Try.isAgg9
  z9 := Try.sizeOf9
  v9 := Try.zeroValue9
  t28 := Try.underlying24
  a28 := Try.isAgg24
  z28 := Try.sizeOf24
  v28 := Try.zeroValue24
  t46 := Try.underlying110
  a46 := Try.isAgg110
  z46 := Try.sizeOf110
  v46 := Try.zeroValue110
  t51 := Try.underlying123
  a51 := Try.isAgg123
  z51 := Try.sizeOf123
  v51 := Try.zeroValue123
  t53 := Try.underlying66
  a53 := Try.isAgg66
  z53 := Try.sizeOf66
  v53 := Try.zeroValue66
  t131 := Try.underlying120
  a131 := Try.isAgg120
  z131 := Try.sizeOf120
  v131 := Try.zeroValue120
  t182 := Try.underlying115
  a182 := Try.isAgg115
  z182 := Try.sizeOf115
  v182 := Try.zeroValue115
  t183 := Try.underlying116
  a183 := Try.isAgg116
  z183 := Try.sizeOf116
  v183 := Try.zeroValue116
  t218 := Try.underlying126
  a218 := Try.isAgg126
  z218 := Try.sizeOf126
  v218 := Try.zeroValue126
  t222 := Try.underlying130
  a222 := Try.isAgg130
  z222 := Try.sizeOf130
  v222 := Try.zeroValue130
  t228 := Try.underlying133
  a228 := Try.isAgg133
  z228 := Try.sizeOf133
  v228 := Try.zeroValue133
  t229 := Try.underlying134
  a229 := Try.isAgg134
  z229 := Try.sizeOf134
  v229 := Try.zeroValue134 }
def Try.laysNm215_ren : Go.Shelf.Ren := ⟨fun | 15 => 77 | n => n, fun | 22 => 24 | 3 => 3 | 4 => 4 | n => n, fun | n => n⟩
theorem Try.laysNm215 : Go.Proofs.Lays2.n15 Try.prog Try.laysNm215_ren := {
  mixed := by kernel_rfl
  f15 := Try.func77.trans (congrArg some (by kernel_rfl))
  t3 := Try.underlying3
  a3 := Try.isAgg3
  z3 := Try.sizeOf3
  v3 := Try.zeroValue3
  t4 := Try.underlying4
  a4 := Try.isAgg4
  z4 := Try.sizeOf4
  v4 := Try.zeroValue4
  t22 := Try.underlying24
  a22 := Try.isAgg24
  z22 := Try.sizeOf24
  v22 := Try.zeroValue24
  i3 := by kernel_rfl }
def Try.laysNm220_ren : Go.Shelf.Ren := ⟨fun | 20 => 79 | n => n, fun | 22 => 24 | 3 => 3 | 4 => 4 | 0 => 0 | n => n, fun | n => n⟩
theorem Try.laysNm220 : Go.Proofs.Lays2.n20 Try.prog Try.laysNm220_ren := {
  mixed := by kernel_rfl
  f20 := Try.func79.trans (congrArg some (by kernel_rfl))
  t0 := Try.underlying0
  a0 := Try.isAgg0
  z0 := Try.sizeOf0
  v0 := Try.zeroValue0
  t3 := Try.underlying3
  a3 := Try.isAgg3
  z3 := Try.sizeOf3
  v3 := Try.zeroValue3
  t4 := Try.underlying4
  a4 := Try.isAgg4
  z4 := Try.sizeOf4
  v4 := Try.zeroValue4
  t22 := Try.underlying24
  a22 := Try.isAgg24
  z22 := Try.sizeOf24
  v22 := Try.zeroValue24
  i3 := by kernel_rfl }
end Go.Proofs
