/-
  DERIVED: THE SHELF's CONTRACTS AT THIS DUMP, IN PLAIN WORDS (tools/lay-plain.mjs out of 'TrydShelf.lean', which tools/lay-shelf.mjs wrote): THE SAME DECLARATIONS UNDER THE SAME NAMES: 'import', 'namespace', 'open', 'def', 'theorem' AND NOTHING ELSE: no command of the shelf's: FOR A HAND-IN. Each laying: the table of numbers ('.._ren') and one theorem, a field a fact of the dump's own or the kernel's comparison; each contract: ONE APPLICATION.
-/
import Derived.Shelf.Strings.Split
import Derived.Test.YtgnlnemhlikfnaaDoorProg
namespace Go.Proofs
open Go.Shelf
def Tryd.lays146_ren : Go.Shelf.Ren := ⟨fun | 146 => 87 | 221 => 116 | 268 => 146 | 138 => 147 | 143 => 148 | 195 => 163 | 197 => 157 | 218 => 164 | 219 => 165 | 260 => 171 | 217 => 174 | 225 => 175 | 224 => 176 | 267 => 177 | 266 => 182 | 314 => 183 | n => n, fun | 9 => 9 | 31 => 37 | 3 => 3 | 4 => 4 | 0 => 0 | 105 => 166 | 21 => 21 | 5 => 5 | 46 => 127 | 119 => 181 | 139 => 184 | 138 => 183 | 146 => 186 | 51 => 176 | n => n, fun | 1 => 1 | 3 => 2 | 4 => 3 | n => n⟩
theorem Tryd.lays146 : Go.Proofs.Lays.n146 Tryd.prog Tryd.lays146_ren := {
  mixed := by kernel_rfl
  f138 := Tryd.func147.trans (congrArg some (by kernel_rfl))
  f143 := Tryd.func148.trans (congrArg some (by kernel_rfl))
  f146 := Tryd.func87.trans (congrArg some (by kernel_rfl))
  f195 := Tryd.func163.trans (congrArg some (by kernel_rfl))
  f197 := Tryd.func157.trans (congrArg some (by kernel_rfl))
  f217 := Tryd.func174.trans (congrArg some (by kernel_rfl))
  f218 := Tryd.func164.trans (congrArg some (by kernel_rfl))
  f219 := Tryd.func165.trans (congrArg some (by kernel_rfl))
  f221 := Tryd.func116.trans (congrArg some (by kernel_rfl))
  f224 := Tryd.func176.trans (congrArg some (by kernel_rfl))
  f225 := Tryd.func175.trans (congrArg some (by kernel_rfl))
  f260 := Tryd.func171.trans (congrArg some (by kernel_rfl))
  f266 := Tryd.func182.trans (congrArg some (by kernel_rfl))
  f267 := Tryd.func177.trans (congrArg some (by kernel_rfl))
  f268 := Tryd.func146.trans (congrArg some (by kernel_rfl))
  f314 := Tryd.func183.trans (congrArg some (by kernel_rfl))
  t0 := Tryd.underlying0
  a0 := Tryd.isAgg0
  z0 := Tryd.sizeOf0
  v0 := Tryd.zeroValue0
  t3 := Tryd.underlying3
  a3 := Tryd.isAgg3
  z3 := Tryd.sizeOf3
  v3 := Tryd.zeroValue3
  t4 := Tryd.underlying4
  a4 := Tryd.isAgg4
  z4 := Tryd.sizeOf4
  v4 := Tryd.zeroValue4
  t5 := Tryd.underlying5
  a5 := Tryd.isAgg5
  z5 := Tryd.sizeOf5
  v5 := Tryd.zeroValue5
  t9 := Tryd.underlying9
  a9 := Tryd.isAgg9
  z9 := Tryd.sizeOf9
  v9 := Tryd.zeroValue9
  t21 := Tryd.underlying21
  a21 := Tryd.isAgg21
  z21 := Tryd.sizeOf21
  v21 := Tryd.zeroValue21
  t31 := Tryd.underlying37
  a31 := Tryd.isAgg37
  z31 := Tryd.sizeOf37
  v31 := Tryd.zeroValue37
  t46 := Tryd.underlying127
  a46 := Tryd.isAgg127
  z46 := Tryd.sizeOf127
  v46 := Tryd.zeroValue127
  t51 := Tryd.underlying176
  a51 := Tryd.isAgg176
  z51 := Tryd.sizeOf176
  v51 := Tryd.zeroValue176
  t105 := Tryd.underlying166
  a105 := Tryd.isAgg166
  z105 := Tryd.sizeOf166
  v105 := Tryd.zeroValue166
  t119 := Tryd.underlying181
  a119 := Tryd.isAgg181
  z119 := Tryd.sizeOf181
  t138 := Tryd.underlying183
  a138 := Tryd.isAgg183
  z138 := Tryd.sizeOf183
  v138 := Tryd.zeroValue183
  t139 := Tryd.underlying184
  a139 := Tryd.isAgg184
  z139 := Tryd.sizeOf184
  v139 := Tryd.zeroValue184
  t146 := Tryd.underlying186
  a146 := Tryd.isAgg186
  z146 := Tryd.sizeOf186
  v146 := Tryd.zeroValue186
  g1 := by kernel_rfl
  g3 := by kernel_rfl
  g4 := by kernel_rfl }
end Go.Proofs
