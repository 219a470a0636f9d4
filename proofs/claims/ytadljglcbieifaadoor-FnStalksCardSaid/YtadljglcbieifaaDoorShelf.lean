/-
  DERIVED: THE SHELF's CONTRACTS AT THIS DUMP, IN PLAIN WORDS (tools/lay-plain.mjs out of 'TrydShelf.lean', which tools/lay-shelf.mjs wrote): THE SAME DECLARATIONS UNDER THE SAME NAMES: 'import', 'namespace', 'open', 'def', 'theorem' AND NOTHING ELSE: no command of the shelf's: FOR A HAND-IN. Each laying: the table of numbers ('.._ren') and one theorem, a field a fact of the dump's own or the kernel's comparison; each contract: ONE APPLICATION.
-/
import Derived.Shelf.Strings.Trim
import Derived.Shelf.Strings.SlTrimAscii
import Derived.Test.YtadljglcbieifaaDoorProg
namespace Go.Proofs
open Go.Shelf
def Tryd.lays160_ren : Go.Shelf.Ren := ⟨fun | 160 => 139 | 232 => 187 | 231 => 186 | 227 => 188 | 234 => 190 | 233 => 189 | 236 => 192 | 235 => 191 | 228 => 225 | 271 => 228 | 151 => 227 | 197 => 226 | 120 => 258 | 152 => 257 | 260 => 256 | 137 => 290 | 119 => 291 | 224 => 231 | 225 => 230 | 217 => 229 | 266 => 259 | n => n, fun | 9 => 9 | 4 => 4 | 3 => 3 | 5 => 5 | 117 => 202 | 116 => 201 | 0 => 0 | 124 => 205 | 21 => 21 | 105 => 237 | 46 => 206 | 119 => 288 | 139 => 291 | 138 => 290 | n => n, fun | 3 => 4 | 4 => 5 | n => n⟩
theorem Tryd.lays160 : Go.Proofs.Lays.n160 Tryd.prog Tryd.lays160_ren := {
  mixed := by kernel_rfl
  f119 := Tryd.func291.trans (congrArg some (by kernel_rfl))
  f120 := Tryd.func258.trans (congrArg some (by kernel_rfl))
  f137 := Tryd.func290.trans (congrArg some (by kernel_rfl))
  f151 := Tryd.func227.trans (congrArg some (by kernel_rfl))
  f152 := Tryd.func257.trans (congrArg some (by kernel_rfl))
  f160 := Tryd.func139.trans (congrArg some (by kernel_rfl))
  f197 := Tryd.func226.trans (congrArg some (by kernel_rfl))
  f217 := Tryd.func229.trans (congrArg some (by kernel_rfl))
  f224 := Tryd.func231.trans (congrArg some (by kernel_rfl))
  f225 := Tryd.func230.trans (congrArg some (by kernel_rfl))
  f227 := Tryd.func188.trans (congrArg some (by kernel_rfl))
  f228 := Tryd.func225.trans (congrArg some (by kernel_rfl))
  f231 := Tryd.func186.trans (congrArg some (by kernel_rfl))
  f232 := Tryd.func187.trans (congrArg some (by kernel_rfl))
  f233 := Tryd.func189.trans (congrArg some (by kernel_rfl))
  f234 := Tryd.func190.trans (congrArg some (by kernel_rfl))
  f235 := Tryd.func191.trans (congrArg some (by kernel_rfl))
  f236 := Tryd.func192.trans (congrArg some (by kernel_rfl))
  f260 := Tryd.func256.trans (congrArg some (by kernel_rfl))
  f266 := Tryd.func259.trans (congrArg some (by kernel_rfl))
  f271 := Tryd.func228.trans (congrArg some (by kernel_rfl))
  t0 := Tryd.underlying0
  a0 := Tryd.isAgg0
  z0 := Tryd.sizeOf0
  v0 := Tryd.zeroValue0
  t3 := Tryd.underlying3
  a3 := Tryd.isAgg3
  z3 := Tryd.sizeOf3
  v3 := Tryd.zeroValue3
  t4 := Tryd.underlying4
  a4 := Tryd.isAgg4
  z4 := Tryd.sizeOf4
  v4 := Tryd.zeroValue4
  t5 := Tryd.underlying5
  a5 := Tryd.isAgg5
  z5 := Tryd.sizeOf5
  v5 := Tryd.zeroValue5
  t9 := Tryd.underlying9
  a9 := Tryd.isAgg9
  z9 := Tryd.sizeOf9
  v9 := Tryd.zeroValue9
  t21 := Tryd.underlying21
  a21 := Tryd.isAgg21
  z21 := Tryd.sizeOf21
  v21 := Tryd.zeroValue21
  t46 := Tryd.underlying206
  a46 := Tryd.isAgg206
  z46 := Tryd.sizeOf206
  v46 := Tryd.zeroValue206
  t105 := Tryd.underlying237
  a105 := Tryd.isAgg237
  z105 := Tryd.sizeOf237
  v105 := Tryd.zeroValue237
  t116 := Tryd.underlying201
  a116 := Tryd.isAgg201
  z116 := Tryd.sizeOf201
  t117 := Tryd.underlying202
  a117 := Tryd.isAgg202
  z117 := Tryd.sizeOf202
  v117 := Tryd.zeroValue202
  t119 := Tryd.underlying288
  a119 := Tryd.isAgg288
  z119 := Tryd.sizeOf288
  t124 := Tryd.underlying205
  a124 := Tryd.isAgg205
  z124 := Tryd.sizeOf205
  v124 := Tryd.zeroValue205
  t138 := Tryd.underlying290
  a138 := Tryd.isAgg290
  z138 := Tryd.sizeOf290
  v138 := Tryd.zeroValue290
  t139 := Tryd.underlying291
  a139 := Tryd.isAgg291
  z139 := Tryd.sizeOf291
  v139 := Tryd.zeroValue291
  g3 := by kernel_rfl
  g4 := by kernel_rfl }
end Go.Proofs
