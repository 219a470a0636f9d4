/-
  DERIVED: THE SHELF's CONTRACTS AT THIS DUMP, IN PLAIN WORDS (tools/lay-plain.mjs out of 'TrydShelf.lean', which tools/lay-shelf.mjs wrote): THE SAME DECLARATIONS UNDER THE SAME NAMES: 'import', 'namespace', 'open', 'def', 'theorem' AND NOTHING ELSE: no command of the shelf's: FOR A HAND-IN. Each laying: the table of numbers ('.._ren') and one theorem, a field a fact of the dump's own or the kernel's comparison; each contract: ONE APPLICATION.
-/
import Derived.Shelf.Strings.SlTrimAscii
import Derived.Test.YtgnlnemhlikfnaaDoorProg
namespace Go.Proofs
open Go.Shelf
def Tryd.lays160_ren : Go.Shelf.Ren := ⟨fun | 160 => 108 | 232 => 135 | 231 => 134 | 227 => 136 | 234 => 138 | 233 => 137 | 236 => 140 | 235 => 139 | 228 => 156 | 271 => 159 | 151 => 158 | 197 => 157 | 120 => 173 | 152 => 172 | 260 => 171 | 137 => 180 | 119 => 181 | 224 => 176 | 225 => 175 | 217 => 174 | 266 => 182 | n => n, fun | 9 => 9 | 4 => 4 | 3 => 3 | 5 => 5 | 117 => 145 | 116 => 144 | 0 => 0 | 124 => 148 | 21 => 21 | 105 => 166 | 46 => 127 | 119 => 181 | 139 => 184 | 138 => 183 | n => n, fun | 3 => 2 | 4 => 3 | n => n⟩
theorem Tryd.lays160 : Go.Proofs.Lays.n160 Tryd.prog Tryd.lays160_ren := {
  mixed := by kernel_rfl
  f119 := Tryd.func181.trans (congrArg some (by kernel_rfl))
  f120 := Tryd.func173.trans (congrArg some (by kernel_rfl))
  f137 := Tryd.func180.trans (congrArg some (by kernel_rfl))
  f151 := Tryd.func158.trans (congrArg some (by kernel_rfl))
  f152 := Tryd.func172.trans (congrArg some (by kernel_rfl))
  f160 := Tryd.func108.trans (congrArg some (by kernel_rfl))
  f197 := Tryd.func157.trans (congrArg some (by kernel_rfl))
  f217 := Tryd.func174.trans (congrArg some (by kernel_rfl))
  f224 := Tryd.func176.trans (congrArg some (by kernel_rfl))
  f225 := Tryd.func175.trans (congrArg some (by kernel_rfl))
  f227 := Tryd.func136.trans (congrArg some (by kernel_rfl))
  f228 := Tryd.func156.trans (congrArg some (by kernel_rfl))
  f231 := Tryd.func134.trans (congrArg some (by kernel_rfl))
  f232 := Tryd.func135.trans (congrArg some (by kernel_rfl))
  f233 := Tryd.func137.trans (congrArg some (by kernel_rfl))
  f234 := Tryd.func138.trans (congrArg some (by kernel_rfl))
  f235 := Tryd.func139.trans (congrArg some (by kernel_rfl))
  f236 := Tryd.func140.trans (congrArg some (by kernel_rfl))
  f260 := Tryd.func171.trans (congrArg some (by kernel_rfl))
  f266 := Tryd.func182.trans (congrArg some (by kernel_rfl))
  f271 := Tryd.func159.trans (congrArg some (by kernel_rfl))
  t0 := Tryd.underlying0
  a0 := Tryd.isAgg0
  z0 := Tryd.sizeOf0
  v0 := Tryd.zeroValue0
  t3 := Tryd.underlying3
  a3 := Tryd.isAgg3
  z3 := Tryd.sizeOf3
  v3 := Tryd.zeroValue3
  t4 := Tryd.underlying4
  a4 := Tryd.isAgg4
  z4 := Tryd.sizeOf4
  v4 := Tryd.zeroValue4
  t5 := Tryd.underlying5
  a5 := Tryd.isAgg5
  z5 := Tryd.sizeOf5
  v5 := Tryd.zeroValue5
  t9 := Tryd.underlying9
  a9 := Tryd.isAgg9
  z9 := Tryd.sizeOf9
  v9 := Tryd.zeroValue9
  t21 := Tryd.underlying21
  a21 := Tryd.isAgg21
  z21 := Tryd.sizeOf21
  v21 := Tryd.zeroValue21
  t46 := Tryd.underlying127
  a46 := Tryd.isAgg127
  z46 := Tryd.sizeOf127
  v46 := Tryd.zeroValue127
  t105 := Tryd.underlying166
  a105 := Tryd.isAgg166
  z105 := Tryd.sizeOf166
  v105 := Tryd.zeroValue166
  t116 := Tryd.underlying144
  a116 := Tryd.isAgg144
  z116 := Tryd.sizeOf144
  t117 := Tryd.underlying145
  a117 := Tryd.isAgg145
  z117 := Tryd.sizeOf145
  v117 := Tryd.zeroValue145
  t119 := Tryd.underlying181
  a119 := Tryd.isAgg181
  z119 := Tryd.sizeOf181
  t124 := Tryd.underlying148
  a124 := Tryd.isAgg148
  z124 := Tryd.sizeOf148
  v124 := Tryd.zeroValue148
  t138 := Tryd.underlying183
  a138 := Tryd.isAgg183
  z138 := Tryd.sizeOf183
  v138 := Tryd.zeroValue183
  t139 := Tryd.underlying184
  a139 := Tryd.isAgg184
  z139 := Tryd.sizeOf184
  v139 := Tryd.zeroValue184
  g3 := by kernel_rfl
  g4 := by kernel_rfl }
end Go.Proofs
