/-
  DERIVED: THE SHELF's CONTRACTS AT THIS DUMP, IN PLAIN WORDS (tools/lay-plain.mjs out of 'TrydShelf.lean', which tools/lay-shelf.mjs wrote): THE SAME DECLARATIONS UNDER THE SAME NAMES: 'import', 'namespace', 'open', 'def', 'theorem' AND NOTHING ELSE: no command of the shelf's: FOR A HAND-IN. Each laying: the table of numbers ('.._ren') and one theorem, a field a fact of the dump's own or the kernel's comparison; each contract: ONE APPLICATION.
-/
import Derived.Shelf.Strings.Trim
import Derived.Shelf.Strings.SlTrimAscii
import Derived.Test.YtbhficohgdlojaaDoorProg
namespace Go.Proofs
open Go.Shelf
def Tryd.lays160_ren : Go.Shelf.Ren := ⟨fun | 160 => 69 | 232 => 100 | 231 => 99 | 227 => 101 | 234 => 103 | 233 => 102 | 236 => 105 | 235 => 104 | 228 => 138 | 271 => 141 | 151 => 140 | 197 => 139 | 120 => 171 | 152 => 170 | 260 => 169 | 137 => 203 | 119 => 204 | 224 => 144 | 225 => 143 | 217 => 142 | 266 => 172 | n => n, fun | 9 => 9 | 4 => 4 | 3 => 3 | 5 => 5 | 117 => 132 | 116 => 131 | 0 => 0 | 124 => 135 | 21 => 21 | 105 => 166 | 46 => 164 | 119 => 218 | 139 => 221 | 138 => 220 | n => n, fun | 3 => 4 | 4 => 5 | n => n⟩
theorem Tryd.lays160 : Go.Proofs.Lays.n160 Tryd.prog Tryd.lays160_ren := {
  mixed := by kernel_rfl
  f119 := Tryd.func204.trans (congrArg some (by kernel_rfl))
  f120 := Tryd.func171.trans (congrArg some (by kernel_rfl))
  f137 := Tryd.func203.trans (congrArg some (by kernel_rfl))
  f151 := Tryd.func140.trans (congrArg some (by kernel_rfl))
  f152 := Tryd.func170.trans (congrArg some (by kernel_rfl))
  f160 := Tryd.func69.trans (congrArg some (by kernel_rfl))
  f197 := Tryd.func139.trans (congrArg some (by kernel_rfl))
  f217 := Tryd.func142.trans (congrArg some (by kernel_rfl))
  f224 := Tryd.func144.trans (congrArg some (by kernel_rfl))
  f225 := Tryd.func143.trans (congrArg some (by kernel_rfl))
  f227 := Tryd.func101.trans (congrArg some (by kernel_rfl))
  f228 := Tryd.func138.trans (congrArg some (by kernel_rfl))
  f231 := Tryd.func99.trans (congrArg some (by kernel_rfl))
  f232 := Tryd.func100.trans (congrArg some (by kernel_rfl))
  f233 := Tryd.func102.trans (congrArg some (by kernel_rfl))
  f234 := Tryd.func103.trans (congrArg some (by kernel_rfl))
  f235 := Tryd.func104.trans (congrArg some (by kernel_rfl))
  f236 := Tryd.func105.trans (congrArg some (by kernel_rfl))
  f260 := Tryd.func169.trans (congrArg some (by kernel_rfl))
  f266 := Tryd.func172.trans (congrArg some (by kernel_rfl))
  f271 := Tryd.func141.trans (congrArg some (by kernel_rfl))
  t0 := Tryd.underlying0
  a0 := Tryd.isAgg0
  z0 := Tryd.sizeOf0
  v0 := Tryd.zeroValue0
  t3 := Tryd.underlying3
  a3 := Tryd.isAgg3
  z3 := Tryd.sizeOf3
  v3 := Tryd.zeroValue3
  t4 := Tryd.underlying4
  a4 := Tryd.isAgg4
  z4 := Tryd.sizeOf4
  v4 := Tryd.zeroValue4
  t5 := Tryd.underlying5
  a5 := Tryd.isAgg5
  z5 := Tryd.sizeOf5
  v5 := Tryd.zeroValue5
  t9 := Tryd.underlying9
  a9 := Tryd.isAgg9
  z9 := Tryd.sizeOf9
  v9 := Tryd.zeroValue9
  t21 := Tryd.underlying21
  a21 := Tryd.isAgg21
  z21 := Tryd.sizeOf21
  v21 := Tryd.zeroValue21
  t46 := Tryd.underlying164
  a46 := Tryd.isAgg164
  z46 := Tryd.sizeOf164
  v46 := Tryd.zeroValue164
  t105 := Tryd.underlying166
  a105 := Tryd.isAgg166
  z105 := Tryd.sizeOf166
  v105 := Tryd.zeroValue166
  t116 := Tryd.underlying131
  a116 := Tryd.isAgg131
  z116 := Tryd.sizeOf131
  t117 := Tryd.underlying132
  a117 := Tryd.isAgg132
  z117 := Tryd.sizeOf132
  v117 := Tryd.zeroValue132
  t119 := Tryd.underlying218
  a119 := Tryd.isAgg218
  z119 := Tryd.sizeOf218
  t124 := Tryd.underlying135
  a124 := Tryd.isAgg135
  z124 := Tryd.sizeOf135
  v124 := Tryd.zeroValue135
  t138 := Tryd.underlying220
  a138 := Tryd.isAgg220
  z138 := Tryd.sizeOf220
  v138 := Tryd.zeroValue220
  t139 := Tryd.underlying221
  a139 := Tryd.isAgg221
  z139 := Tryd.sizeOf221
  v139 := Tryd.zeroValue221
  g3 := by kernel_rfl
  g4 := by kernel_rfl }
end Go.Proofs
