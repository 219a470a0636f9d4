/-
  DERIVED: THE SHELF's CONTRACTS AT THIS DUMP, IN PLAIN WORDS (tools/lay-plain.mjs out of 'TrydShelf.lean', which tools/lay-shelf.mjs wrote): THE SAME DECLARATIONS UNDER THE SAME NAMES: 'import', 'namespace', 'open', 'def', 'theorem' AND NOTHING ELSE: no command of the shelf's: FOR A HAND-IN. Each laying: the table of numbers ('.._ren') and one theorem, a field a fact of the dump's own or the kernel's comparison; each contract: ONE APPLICATION.
-/
import Derived.Shelf.Strings.Trim
import Derived.Shelf.Strings.SlTrimAscii
import Derived.Test.YtidfbbegjpfjpaaDoorProg
namespace Go.Proofs
open Go.Shelf
def Tryd.lays160_ren : Go.Shelf.Ren := ⟨fun | 160 => 127 | 232 => 155 | 231 => 154 | 227 => 156 | 234 => 158 | 233 => 157 | 236 => 160 | 235 => 159 | 228 => 173 | 271 => 176 | 151 => 175 | 197 => 174 | 120 => 192 | 152 => 191 | 260 => 190 | 137 => 203 | 119 => 204 | 224 => 179 | 225 => 178 | 217 => 177 | 266 => 193 | n => n, fun | 9 => 9 | 4 => 4 | 3 => 3 | 5 => 5 | 117 => 167 | 116 => 166 | 0 => 0 | 124 => 170 | 21 => 21 | 105 => 183 | 46 => 142 | 119 => 211 | 139 => 214 | 138 => 213 | n => n, fun | 3 => 4 | 4 => 5 | n => n⟩
theorem Tryd.lays160 : Go.Proofs.Lays.n160 Tryd.prog Tryd.lays160_ren := {
  mixed := by kernel_rfl
  f119 := Tryd.func204.trans (congrArg some (by kernel_rfl))
  f120 := Tryd.func192.trans (congrArg some (by kernel_rfl))
  f137 := Tryd.func203.trans (congrArg some (by kernel_rfl))
  f151 := Tryd.func175.trans (congrArg some (by kernel_rfl))
  f152 := Tryd.func191.trans (congrArg some (by kernel_rfl))
  f160 := Tryd.func127.trans (congrArg some (by kernel_rfl))
  f197 := Tryd.func174.trans (congrArg some (by kernel_rfl))
  f217 := Tryd.func177.trans (congrArg some (by kernel_rfl))
  f224 := Tryd.func179.trans (congrArg some (by kernel_rfl))
  f225 := Tryd.func178.trans (congrArg some (by kernel_rfl))
  f227 := Tryd.func156.trans (congrArg some (by kernel_rfl))
  f228 := Tryd.func173.trans (congrArg some (by kernel_rfl))
  f231 := Tryd.func154.trans (congrArg some (by kernel_rfl))
  f232 := Tryd.func155.trans (congrArg some (by kernel_rfl))
  f233 := Tryd.func157.trans (congrArg some (by kernel_rfl))
  f234 := Tryd.func158.trans (congrArg some (by kernel_rfl))
  f235 := Tryd.func159.trans (congrArg some (by kernel_rfl))
  f236 := Tryd.func160.trans (congrArg some (by kernel_rfl))
  f260 := Tryd.func190.trans (congrArg some (by kernel_rfl))
  f266 := Tryd.func193.trans (congrArg some (by kernel_rfl))
  f271 := Tryd.func176.trans (congrArg some (by kernel_rfl))
  t0 := Tryd.underlying0
  a0 := Tryd.isAgg0
  z0 := Tryd.sizeOf0
  v0 := Tryd.zeroValue0
  t3 := Tryd.underlying3
  a3 := Tryd.isAgg3
  z3 := Tryd.sizeOf3
  v3 := Tryd.zeroValue3
  t4 := Tryd.underlying4
  a4 := Tryd.isAgg4
  z4 := Tryd.sizeOf4
  v4 := Tryd.zeroValue4
  t5 := Tryd.underlying5
  a5 := Tryd.isAgg5
  z5 := Tryd.sizeOf5
  v5 := Tryd.zeroValue5
  t9 := Tryd.underlying9
  a9 := Tryd.isAgg9
  z9 := Tryd.sizeOf9
  v9 := Tryd.zeroValue9
  t21 := Tryd.underlying21
  a21 := Tryd.isAgg21
  z21 := Tryd.sizeOf21
  v21 := Tryd.zeroValue21
  t46 := Tryd.underlying142
  a46 := Tryd.isAgg142
  z46 := Tryd.sizeOf142
  v46 := Tryd.zeroValue142
  t105 := Tryd.underlying183
  a105 := Tryd.isAgg183
  z105 := Tryd.sizeOf183
  v105 := Tryd.zeroValue183
  t116 := Tryd.underlying166
  a116 := Tryd.isAgg166
  z116 := Tryd.sizeOf166
  t117 := Tryd.underlying167
  a117 := Tryd.isAgg167
  z117 := Tryd.sizeOf167
  v117 := Tryd.zeroValue167
  t119 := Tryd.underlying211
  a119 := Tryd.isAgg211
  z119 := Tryd.sizeOf211
  t124 := Tryd.underlying170
  a124 := Tryd.isAgg170
  z124 := Tryd.sizeOf170
  v124 := Tryd.zeroValue170
  t138 := Tryd.underlying213
  a138 := Tryd.isAgg213
  z138 := Tryd.sizeOf213
  v138 := Tryd.zeroValue213
  t139 := Tryd.underlying214
  a139 := Tryd.isAgg214
  z139 := Tryd.sizeOf214
  v139 := Tryd.zeroValue214
  g3 := by kernel_rfl
  g4 := by kernel_rfl }
end Go.Proofs
