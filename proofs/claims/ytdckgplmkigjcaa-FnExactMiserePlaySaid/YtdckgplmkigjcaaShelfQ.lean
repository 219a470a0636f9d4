/-
  DERIVED: THE SHELF's CONTRACTS AT THIS DUMP, IN PLAIN WORDS (tools/lay-plain.mjs out of 'TryShelf.lean', which tools/lay-shelf.mjs wrote): THE SAME DECLARATIONS UNDER THE SAME NAMES: 'import', 'namespace', 'open', 'def', 'theorem' AND NOTHING ELSE: no command of the shelf's: FOR A HAND-IN. Each laying: the table of numbers ('.._ren') and one theorem, a field a fact of the dump's own or the kernel's comparison; each contract: ONE APPLICATION.
-/
import Derived.Shelf.Sort.Plain
import Derived.Shelf.Slices.Clone
import Derived.Shelf.Lays2
import Derived.Test.YtdckgplmkigjcaaProg
namespace Go.Proofs
open Go.Shelf
def Try.lays189_ren : Go.Shelf.Ren := ⟨fun | 189 => 115 | 125 => 117 | 257 => 122 | 128 => 131 | 129 => 132 | 294 => 134 | 295 => 135 | 296 => 136 | 297 => 137 | 298 => 138 | 299 => 139 | 216 => 140 | 300 => 141 | 301 => 142 | 328 => 148 | 329 => 144 | 330 => 145 | 331 => 149 | 332 => 150 | 215 => 133 | 343 => 152 | n => n, fun | 28 => 22 | 3 => 3 | 46 => 107 | 0 => 0 | 51 => 118 | 53 => 120 | 4 => 4 | 183 => 112 | 182 => 111 | 131 => 25 | 5 => 5 | 9 => 9 | 218 => 127 | 222 => 131 | 228 => 135 | 229 => 136 | n => n, fun | n => n⟩
theorem Try.lays189 : Go.Proofs.Lays.n189 Try.prog Try.lays189_ren := {
  mixed := by kernel_rfl
  f125 := Try.func117.trans (congrArg some (by kernel_rfl))
  f128 := Try.func131.trans (congrArg some (by kernel_rfl))
  f129 := Try.func132.trans (congrArg some (by kernel_rfl))
  f189 := Try.func115.trans (congrArg some (by kernel_rfl))
  f215 := Try.func133.trans (congrArg some (by kernel_rfl))
  f216 := Try.func140.trans (congrArg some (by kernel_rfl))
  f257 := Try.func122.trans (congrArg some (by kernel_rfl))
  f294 := Try.func134.trans (congrArg some (by kernel_rfl))
  f295 := Try.func135.trans (congrArg some (by kernel_rfl))
  f296 := Try.func136.trans (congrArg some (by kernel_rfl))
  f297 := Try.func137.trans (congrArg some (by kernel_rfl))
  f298 := Try.func138.trans (congrArg some (by kernel_rfl))
  f299 := Try.func139.trans (congrArg some (by kernel_rfl))
  f300 := Try.func141.trans (congrArg some (by kernel_rfl))
  f301 := Try.func142.trans (congrArg some (by kernel_rfl))
  f328 := Try.func148.trans (congrArg some (by kernel_rfl))
  f329 := Try.func144.trans (congrArg some (by kernel_rfl))
  f330 := Try.func145.trans (congrArg some (by kernel_rfl))
  f331 := Try.func149.trans (congrArg some (by kernel_rfl))
  f332 := Try.func150.trans (congrArg some (by kernel_rfl))
  f343 := Try.func152.trans (congrArg some (by kernel_rfl))
  t0 := Try.underlying0
  a0 := Try.isAgg0
  z0 := Try.sizeOf0
  v0 := Try.zeroValue0
  t3 := Try.underlying3
  a3 := Try.isAgg3
  z3 := Try.sizeOf3
  v3 := Try.zeroValue3
  t4 := Try.underlying4
  a4 := Try.isAgg4
  z4 := Try.sizeOf4
  v4 := Try.zeroValue4
  t5 := Try.underlying5
  a5 := Try.isAgg5
  z5 := Try.sizeOf5
  v5 := Try.zeroValue5
  t9 := Try.underlying9
  a9 := Try.isAgg9
  z9 := Try.sizeOf9
  v9 := Try.zeroValue9
  t28 := Try.underlying22
  a28 := Try.isAgg22
  z28 := Try.sizeOf22
  v28 := Try.zeroValue22
  t46 := Try.underlying107
  a46 := Try.isAgg107
  z46 := Try.sizeOf107
  v46 := Try.zeroValue107
  t51 := Try.underlying118
  a51 := Try.isAgg118
  z51 := Try.sizeOf118
  v51 := Try.zeroValue118
  t53 := Try.underlying120
  a53 := Try.isAgg120
  z53 := Try.sizeOf120
  v53 := Try.zeroValue120
  t131 := Try.underlying25
  a131 := Try.isAgg25
  z131 := Try.sizeOf25
  v131 := Try.zeroValue25
  t182 := Try.underlying111
  a182 := Try.isAgg111
  z182 := Try.sizeOf111
  v182 := Try.zeroValue111
  t183 := Try.underlying112
  a183 := Try.isAgg112
  z183 := Try.sizeOf112
  v183 := Try.zeroValue112
  t218 := Try.underlying127
  a218 := Try.isAgg127
  z218 := Try.sizeOf127
  v218 := Try.zeroValue127
  t222 := Try.underlying131
  a222 := Try.isAgg131
  z222 := Try.sizeOf131
  v222 := Try.zeroValue131
  t228 := Try.underlying135
  a228 := Try.isAgg135
  z228 := Try.sizeOf135
  v228 := Try.zeroValue135
  t229 := Try.underlying136
  a229 := Try.isAgg136
  z229 := Try.sizeOf136
  v229 := Try.zeroValue136 }
def Try.laysNm215_ren : Go.Shelf.Ren := ⟨fun | 15 => 90 | n => n, fun | 22 => 22 | 3 => 3 | 4 => 4 | n => n, fun | n => n⟩
theorem Try.laysNm215 : Go.Proofs.Lays2.n15 Try.prog Try.laysNm215_ren := {
  mixed := by kernel_rfl
  f15 := Try.func90.trans (congrArg some (by kernel_rfl))
  t3 := Try.underlying3
  a3 := Try.isAgg3
  z3 := Try.sizeOf3
  v3 := Try.zeroValue3
  t4 := Try.underlying4
  a4 := Try.isAgg4
  z4 := Try.sizeOf4
  v4 := Try.zeroValue4
  t22 := Try.underlying22
  a22 := Try.isAgg22
  z22 := Try.sizeOf22
  v22 := Try.zeroValue22
  i3 := by kernel_rfl }
end Go.Proofs
