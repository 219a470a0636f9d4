/-
  DERIVED: THE SHELF's CONTRACTS AT THIS DUMP, IN PLAIN WORDS (tools/lay-plain.mjs out of 'TrydShelf.lean', which tools/lay-shelf.mjs wrote): THE SAME DECLARATIONS UNDER THE SAME NAMES: 'import', 'namespace', 'open', 'def', 'theorem' AND NOTHING ELSE: no command of the shelf's: FOR A HAND-IN. Each laying: the table of numbers ('.._ren') and one theorem, a field a fact of the dump's own or the kernel's comparison; each contract: ONE APPLICATION.
-/
import Derived.Shelf.Strings.Search2
import Derived.Test.YtfafnjlembbemaaDoorProg
namespace Go.Proofs
open Go.Shelf
def Tryd.lays219_ren : Go.Shelf.Ren := ⟨fun | 219 => 82 | 217 => 117 | 225 => 118 | 224 => 119 | 267 => 120 | 266 => 145 | 314 => 146 | n => n, fun | 9 => 9 | 3 => 3 | 4 => 4 | 5 => 5 | 46 => 145 | 146 => 165 | 51 => 164 | n => n, fun | 1 => 0 | n => n⟩
theorem Tryd.lays219 : Go.Proofs.Lays.n219 Tryd.prog Tryd.lays219_ren := {
  mixed := by kernel_rfl
  f217 := Tryd.func117.trans (congrArg some (by kernel_rfl))
  f219 := Tryd.func82.trans (congrArg some (by kernel_rfl))
  f224 := Tryd.func119.trans (congrArg some (by kernel_rfl))
  f225 := Tryd.func118.trans (congrArg some (by kernel_rfl))
  f266 := Tryd.func145.trans (congrArg some (by kernel_rfl))
  f267 := Tryd.func120.trans (congrArg some (by kernel_rfl))
  f314 := Tryd.func146.trans (congrArg some (by kernel_rfl))
  t3 := Tryd.underlying3
  a3 := Tryd.isAgg3
  z3 := Tryd.sizeOf3
  v3 := Tryd.zeroValue3
  t4 := Tryd.underlying4
  a4 := Tryd.isAgg4
  z4 := Tryd.sizeOf4
  v4 := Tryd.zeroValue4
  t5 := Tryd.underlying5
  a5 := Tryd.isAgg5
  z5 := Tryd.sizeOf5
  v5 := Tryd.zeroValue5
  t9 := Tryd.underlying9
  a9 := Tryd.isAgg9
  z9 := Tryd.sizeOf9
  v9 := Tryd.zeroValue9
  t46 := Tryd.underlying145
  a46 := Tryd.isAgg145
  z46 := Tryd.sizeOf145
  v46 := Tryd.zeroValue145
  t51 := Tryd.underlying164
  a51 := Tryd.isAgg164
  z51 := Tryd.sizeOf164
  v51 := Tryd.zeroValue164
  t146 := Tryd.underlying165
  a146 := Tryd.isAgg165
  z146 := Tryd.sizeOf165
  v146 := Tryd.zeroValue165
  g1 := by kernel_rfl }
end Go.Proofs
