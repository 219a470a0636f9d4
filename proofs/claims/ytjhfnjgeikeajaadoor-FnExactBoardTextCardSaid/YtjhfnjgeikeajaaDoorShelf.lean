/-
  DERIVED: THE SHELF's CONTRACTS AT THIS DUMP, IN PLAIN WORDS (tools/lay-plain.mjs out of 'TrydShelf.lean', which tools/lay-shelf.mjs wrote): THE SAME DECLARATIONS UNDER THE SAME NAMES: 'import', 'namespace', 'open', 'def', 'theorem' AND NOTHING ELSE: no command of the shelf's: FOR A HAND-IN. Each laying: the table of numbers ('.._ren') and one theorem, a field a fact of the dump's own or the kernel's comparison; each contract: ONE APPLICATION.
-/
import Derived.Shelf.Strings.Trim
import Derived.Shelf.Strings.SlTrimAscii
import Derived.Test.YtjhfnjgeikeajaaDoorProg
namespace Go.Proofs
open Go.Shelf
def Tryd.lays160_ren : Go.Shelf.Ren := ⟨fun | 160 => 55 | 232 => 78 | 231 => 77 | 227 => 79 | 234 => 81 | 233 => 80 | 236 => 83 | 235 => 82 | 228 => 92 | 271 => 95 | 151 => 94 | 197 => 93 | 120 => 103 | 152 => 102 | 260 => 101 | 137 => 106 | 119 => 107 | 224 => 108 | 225 => 109 | 217 => 112 | 266 => 113 | n => n, fun | 9 => 9 | 4 => 4 | 3 => 3 | 5 => 5 | 117 => 79 | 116 => 78 | 0 => 0 | 124 => 82 | 21 => 21 | 105 => 92 | 46 => 109 | 119 => 108 | 139 => 112 | 138 => 111 | n => n, fun | 3 => 0 | 4 => 1 | n => n⟩
theorem Tryd.lays160 : Go.Proofs.Lays.n160 Tryd.prog Tryd.lays160_ren := {
  mixed := by kernel_rfl
  f119 := Tryd.func107.trans (congrArg some (by kernel_rfl))
  f120 := Tryd.func103.trans (congrArg some (by kernel_rfl))
  f137 := Tryd.func106.trans (congrArg some (by kernel_rfl))
  f151 := Tryd.func94.trans (congrArg some (by kernel_rfl))
  f152 := Tryd.func102.trans (congrArg some (by kernel_rfl))
  f160 := Tryd.func55.trans (congrArg some (by kernel_rfl))
  f197 := Tryd.func93.trans (congrArg some (by kernel_rfl))
  f217 := Tryd.func112.trans (congrArg some (by kernel_rfl))
  f224 := Tryd.func108.trans (congrArg some (by kernel_rfl))
  f225 := Tryd.func109.trans (congrArg some (by kernel_rfl))
  f227 := Tryd.func79.trans (congrArg some (by kernel_rfl))
  f228 := Tryd.func92.trans (congrArg some (by kernel_rfl))
  f231 := Tryd.func77.trans (congrArg some (by kernel_rfl))
  f232 := Tryd.func78.trans (congrArg some (by kernel_rfl))
  f233 := Tryd.func80.trans (congrArg some (by kernel_rfl))
  f234 := Tryd.func81.trans (congrArg some (by kernel_rfl))
  f235 := Tryd.func82.trans (congrArg some (by kernel_rfl))
  f236 := Tryd.func83.trans (congrArg some (by kernel_rfl))
  f260 := Tryd.func101.trans (congrArg some (by kernel_rfl))
  f266 := Tryd.func113.trans (congrArg some (by kernel_rfl))
  f271 := Tryd.func95.trans (congrArg some (by kernel_rfl))
  t0 := Tryd.underlying0
  a0 := Tryd.isAgg0
  z0 := Tryd.sizeOf0
  v0 := Tryd.zeroValue0
  t3 := Tryd.underlying3
  a3 := Tryd.isAgg3
  z3 := Tryd.sizeOf3
  v3 := Tryd.zeroValue3
  t4 := Tryd.underlying4
  a4 := Tryd.isAgg4
  z4 := Tryd.sizeOf4
  v4 := Tryd.zeroValue4
  t5 := Tryd.underlying5
  a5 := Tryd.isAgg5
  z5 := Tryd.sizeOf5
  v5 := Tryd.zeroValue5
  t9 := Tryd.underlying9
  a9 := Tryd.isAgg9
  z9 := Tryd.sizeOf9
  v9 := Tryd.zeroValue9
  t21 := Tryd.underlying21
  a21 := Tryd.isAgg21
  z21 := Tryd.sizeOf21
  v21 := Tryd.zeroValue21
  t46 := Tryd.underlying109
  a46 := Tryd.isAgg109
  z46 := Tryd.sizeOf109
  v46 := Tryd.zeroValue109
  t105 := Tryd.underlying92
  a105 := Tryd.isAgg92
  z105 := Tryd.sizeOf92
  v105 := Tryd.zeroValue92
  t116 := Tryd.underlying78
  a116 := Tryd.isAgg78
  z116 := Tryd.sizeOf78
  t117 := Tryd.underlying79
  a117 := Tryd.isAgg79
  z117 := Tryd.sizeOf79
  v117 := Tryd.zeroValue79
  t119 := Tryd.underlying108
  a119 := Tryd.isAgg108
  z119 := Tryd.sizeOf108
  t124 := Tryd.underlying82
  a124 := Tryd.isAgg82
  z124 := Tryd.sizeOf82
  v124 := Tryd.zeroValue82
  t138 := Tryd.underlying111
  a138 := Tryd.isAgg111
  z138 := Tryd.sizeOf111
  v138 := Tryd.zeroValue111
  t139 := Tryd.underlying112
  a139 := Tryd.isAgg112
  z139 := Tryd.sizeOf112
  v139 := Tryd.zeroValue112
  g3 := by kernel_rfl
  g4 := by kernel_rfl }
end Go.Proofs
