/-
  DERIVED: THE SHELF's CONTRACTS AT THIS DUMP, IN PLAIN WORDS (tools/lay-plain.mjs out of 'TryShelf.lean', which tools/lay-shelf.mjs wrote): THE SAME DECLARATIONS UNDER THE SAME NAMES: 'import', 'namespace', 'open', 'def', 'theorem' AND NOTHING ELSE: no command of the shelf's: FOR A HAND-IN. Each laying: the table of numbers ('.._ren') and one theorem, a field a fact of the dump's own or the kernel's comparison; each contract: ONE APPLICATION.
-/
import Derived.Shelf.Sort.Plain
import Derived.Shelf.Slices.Clone
import Derived.Shelf.Slices.CompactI
import Derived.Shelf.Lays2
import Derived.Test.YtidfbbegjpfjpaaProg
namespace Go.Proofs
open Go.Shelf
def Try.lays189_ren : Go.Shelf.Ren := ⟨fun | 189 => 40 | 125 => 62 | 257 => 61 | 128 => 81 | 129 => 82 | 294 => 72 | 295 => 73 | 296 => 74 | 297 => 75 | 298 => 76 | 299 => 77 | 216 => 78 | 300 => 79 | 301 => 80 | 328 => 84 | 329 => 85 | 330 => 86 | 331 => 87 | 332 => 88 | 215 => 89 | 343 => 92 | n => n, fun | 28 => 37 | 3 => 3 | 46 => 97 | 0 => 0 | 51 => 111 | 53 => 66 | 4 => 4 | 183 => 105 | 182 => 104 | 131 => 42 | 5 => 5 | 9 => 9 | 218 => 114 | 222 => 118 | 228 => 122 | 229 => 123 | n => n, fun | n => n⟩
theorem Try.lays189 : Go.Proofs.Lays.n189 Try.prog Try.lays189_ren := {
  mixed := by kernel_rfl
  f125 := Try.func62.trans (congrArg some (by kernel_rfl))
  f128 := Try.func81.trans (congrArg some (by kernel_rfl))
  f129 := Try.func82.trans (congrArg some (by kernel_rfl))
  f189 := Try.func40.trans (congrArg some (by kernel_rfl))
  f215 := Try.func89.trans (congrArg some (by kernel_rfl))
  f216 := Try.func78.trans (congrArg some (by kernel_rfl))
  f257 := Try.func61.trans (congrArg some (by kernel_rfl))
  f294 := Try.func72.trans (congrArg some (by kernel_rfl))
  f295 := Try.func73.trans (congrArg some (by kernel_rfl))
  f296 := Try.func74.trans (congrArg some (by kernel_rfl))
  f297 := Try.func75.trans (congrArg some (by kernel_rfl))
  f298 := Try.func76.trans (congrArg some (by kernel_rfl))
  f299 := Try.func77.trans (congrArg some (by kernel_rfl))
  f300 := Try.func79.trans (congrArg some (by kernel_rfl))
  f301 := Try.func80.trans (congrArg some (by kernel_rfl))
  f328 := Try.func84.trans (congrArg some (by kernel_rfl))
  f329 := Try.func85.trans (congrArg some (by kernel_rfl))
  f330 := Try.func86.trans (congrArg some (by kernel_rfl))
  f331 := Try.func87.trans (congrArg some (by kernel_rfl))
  f332 := Try.func88.trans (congrArg some (by kernel_rfl))
  f343 := Try.func92.trans (congrArg some (by kernel_rfl))
  t0 := Try.underlying0
  a0 := Try.isAgg0
  z0 := Try.sizeOf0
  v0 := Try.zeroValue0
  t3 := Try.underlying3
  a3 := Try.isAgg3
  z3 := Try.sizeOf3
  v3 := Try.zeroValue3
  t4 := Try.underlying4
  a4 := Try.isAgg4
  z4 := Try.sizeOf4
  v4 := Try.zeroValue4
  t5 := Try.underlying5
  a5 := Try.isAgg5
  z5 := Try.sizeOf5
  v5 := Try.zeroValue5
  t9 := Try.underlying9
  a9 := Try.isAgg9
  z9 := Try.sizeOf9
  v9 := Try.zeroValue9
  t28 := Try.underlying37
  a28 := Try.isAgg37
  z28 := Try.sizeOf37
  v28 := Try.zeroValue37
  t46 := Try.underlying97
  a46 := Try.isAgg97
  z46 := Try.sizeOf97
  v46 := Try.zeroValue97
  t51 := Try.underlying111
  a51 := Try.isAgg111
  z51 := Try.sizeOf111
  v51 := Try.zeroValue111
  t53 := Try.underlying66
  a53 := Try.isAgg66
  z53 := Try.sizeOf66
  v53 := Try.zeroValue66
  t131 := Try.underlying42
  a131 := Try.isAgg42
  z131 := Try.sizeOf42
  v131 := Try.zeroValue42
  t182 := Try.underlying104
  a182 := Try.isAgg104
  z182 := Try.sizeOf104
  v182 := Try.zeroValue104
  t183 := Try.underlying105
  a183 := Try.isAgg105
  z183 := Try.sizeOf105
  v183 := Try.zeroValue105
  t218 := Try.underlying114
  a218 := Try.isAgg114
  z218 := Try.sizeOf114
  v218 := Try.zeroValue114
  t222 := Try.underlying118
  a222 := Try.isAgg118
  z222 := Try.sizeOf118
  v222 := Try.zeroValue118
  t228 := Try.underlying122
  a228 := Try.isAgg122
  z228 := Try.sizeOf122
  v228 := Try.zeroValue122
  t229 := Try.underlying123
  a229 := Try.isAgg123
  z229 := Try.sizeOf123
  v229 := Try.zeroValue123 }
def Try.laysNm215_ren : Go.Shelf.Ren := ⟨fun | 15 => 39 | n => n, fun | 22 => 37 | 3 => 3 | 4 => 4 | n => n, fun | n => n⟩
theorem Try.laysNm215 : Go.Proofs.Lays2.n15 Try.prog Try.laysNm215_ren := {
  mixed := by kernel_rfl
  f15 := Try.func39.trans (congrArg some (by kernel_rfl))
  t3 := Try.underlying3
  a3 := Try.isAgg3
  z3 := Try.sizeOf3
  v3 := Try.zeroValue3
  t4 := Try.underlying4
  a4 := Try.isAgg4
  z4 := Try.sizeOf4
  v4 := Try.zeroValue4
  t22 := Try.underlying37
  a22 := Try.isAgg37
  z22 := Try.sizeOf37
  v22 := Try.zeroValue37
  i3 := by kernel_rfl }
def Try.laysNm220_ren : Go.Shelf.Ren := ⟨fun | 20 => 41 | n => n, fun | 22 => 37 | 3 => 3 | 4 => 4 | 0 => 0 | n => n, fun | n => n⟩
theorem Try.laysNm220 : Go.Proofs.Lays2.n20 Try.prog Try.laysNm220_ren := {
  mixed := by kernel_rfl
  f20 := Try.func41.trans (congrArg some (by kernel_rfl))
  t0 := Try.underlying0
  a0 := Try.isAgg0
  z0 := Try.sizeOf0
  v0 := Try.zeroValue0
  t3 := Try.underlying3
  a3 := Try.isAgg3
  z3 := Try.sizeOf3
  v3 := Try.zeroValue3
  t4 := Try.underlying4
  a4 := Try.isAgg4
  z4 := Try.sizeOf4
  v4 := Try.zeroValue4
  t22 := Try.underlying37
  a22 := Try.isAgg37
  z22 := Try.sizeOf37
  v22 := Try.zeroValue37
  i3 := by kernel_rfl }
end Go.Proofs
