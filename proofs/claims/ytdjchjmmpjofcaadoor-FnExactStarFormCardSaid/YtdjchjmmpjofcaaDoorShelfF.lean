/-
  DERIVED: THE SHELF's CONTRACTS AT THIS DUMP, IN PLAIN WORDS (tools/lay-plain.mjs out of 'TrydShelf.lean', which tools/lay-shelf.mjs wrote): THE SAME DECLARATIONS UNDER THE SAME NAMES: 'import', 'namespace', 'open', 'def', 'theorem' AND NOTHING ELSE: no command of the shelf's: FOR A HAND-IN. Each laying: the table of numbers ('.._ren') and one theorem, a field a fact of the dump's own or the kernel's comparison; each contract: ONE APPLICATION.
-/
import Derived.Shelf.Small.Wraps
import Derived.Shelf.SlSortCmp.Whole1
import Derived.Test.YtdjchjmmpjofcaaDoorProg
namespace Go.Proofs
open Go.Shelf
def Tryd.lays122_ren : Go.Shelf.Ren := ⟨fun | 122 => 26 | 215 => 37 | n => n, fun | 3 => 3 | 4 => 4 | n => n, fun | n => n⟩
theorem Tryd.lays122 : Go.Proofs.Lays.n122 Tryd.prog Tryd.lays122_ren := {
  mixed := by kernel_rfl
  f122 := Tryd.func26.trans (congrArg some (by kernel_rfl))
  f215 := Tryd.func37.trans (congrArg some (by kernel_rfl))
  t3 := Tryd.underlying3
  a3 := Tryd.isAgg3
  z3 := Tryd.sizeOf3
  v3 := Tryd.zeroValue3
  t4 := Tryd.underlying4
  a4 := Tryd.isAgg4
  z4 := Tryd.sizeOf4
  v4 := Tryd.zeroValue4 }
def Tryd.lays_f24_ren : Go.Shelf.Ren := ⟨fun | 6 => 24 | 15 => 36 | 14 => 35 | 28 => 51 | 29 => 52 | 20 => 43 | 21 => 44 | 22 => 45 | 23 => 46 | 24 => 47 | 25 => 48 | 26 => 49 | 27 => 50 | 46 => 63 | 47 => 64 | 48 => 65 | 49 => 66 | 50 => 67 | 57 => 84 | n => n, fun | 22 => 37 | 24 => 3 | 25 => 56 | 3 => 3 | 39 => 70 | 0 => 0 | 53 => 81 | 55 => 83 | 4 => 4 | 46 => 75 | 45 => 74 | 50 => 66 | 5 => 5 | 9 => 9 | 66 => 91 | 70 => 95 | 76 => 110 | 77 => 111 | n => n, fun | n => n⟩
theorem Tryd.lays_f24 : Go.Proofs.SlLaysF.n6 Tryd.prog Tryd.lays_f24_ren := {
  mixed := by kernel_rfl
  f6 := ⟨Tryd.f24.name, by decide, Tryd.func24.trans (congrArg some (by kernel_rfl))⟩
  f14 := ⟨Tryd.f35.name, by decide, Tryd.func35.trans (congrArg some (by kernel_rfl))⟩
  f15 := Tryd.func36.trans (congrArg some (by kernel_rfl))
  f20 := ⟨Tryd.f43.name, by decide, Tryd.func43.trans (congrArg some (by kernel_rfl))⟩
  f21 := ⟨Tryd.f44.name, by decide, Tryd.func44.trans (congrArg some (by kernel_rfl))⟩
  f22 := ⟨Tryd.f45.name, by decide, Tryd.func45.trans (congrArg some (by kernel_rfl))⟩
  f23 := ⟨Tryd.f46.name, by decide, Tryd.func46.trans (congrArg some (by kernel_rfl))⟩
  f24 := ⟨Tryd.f47.name, by decide, Tryd.func47.trans (congrArg some (by kernel_rfl))⟩
  f25 := ⟨Tryd.f48.name, by decide, Tryd.func48.trans (congrArg some (by kernel_rfl))⟩
  f26 := ⟨Tryd.f49.name, by decide, Tryd.func49.trans (congrArg some (by kernel_rfl))⟩
  f27 := ⟨Tryd.f50.name, by decide, Tryd.func50.trans (congrArg some (by kernel_rfl))⟩
  f28 := Tryd.func51.trans (congrArg some (by kernel_rfl))
  f29 := Tryd.func52.trans (congrArg some (by kernel_rfl))
  f46 := ⟨Tryd.f63.name, by decide, Tryd.func63.trans (congrArg some (by kernel_rfl))⟩
  f47 := Tryd.func64.trans (congrArg some (by kernel_rfl))
  f48 := Tryd.func65.trans (congrArg some (by kernel_rfl))
  f49 := ⟨Tryd.f66.name, by decide, Tryd.func66.trans (congrArg some (by kernel_rfl))⟩
  f50 := ⟨Tryd.f67.name, by decide, Tryd.func67.trans (congrArg some (by kernel_rfl))⟩
  f57 := ⟨Tryd.f84.name, by decide, Tryd.func84.trans (congrArg some (by kernel_rfl))⟩
  t0 := Tryd.underlying0
  a0 := Tryd.isAgg0
  z0 := Tryd.sizeOf0
  v0 := Tryd.zeroValue0
  t3 := Tryd.underlying3
  a3 := Tryd.isAgg3
  z3 := Tryd.sizeOf3
  v3 := Tryd.zeroValue3
  t4 := Tryd.underlying4
  a4 := Tryd.isAgg4
  z4 := Tryd.sizeOf4
  v4 := Tryd.zeroValue4
  t5 := Tryd.underlying5
  a5 := Tryd.isAgg5
  z5 := Tryd.sizeOf5
  v5 := Tryd.zeroValue5
  t9 := Tryd.underlying9
  a9 := Tryd.isAgg9
  z9 := Tryd.sizeOf9
  v9 := Tryd.zeroValue9
  t22 := Tryd.underlying37
  a22 := Tryd.isAgg37
  z22 := Tryd.sizeOf37
  v22 := Tryd.zeroValue37
  a24 := Tryd.isAgg3
  z24 := Tryd.sizeOf3
  t25 := Tryd.underlying56
  a25 := Tryd.isAgg56
  z25 := Tryd.sizeOf56
  v25 := Tryd.zeroValue56
  t39 := Tryd.underlying70
  a39 := Tryd.isAgg70
  z39 := Tryd.sizeOf70
  v39 := Tryd.zeroValue70
  t45 := Tryd.underlying74
  a45 := Tryd.isAgg74
  z45 := Tryd.sizeOf74
  v45 := Tryd.zeroValue74
  t46 := Tryd.underlying75
  a46 := Tryd.isAgg75
  z46 := Tryd.sizeOf75
  v46 := Tryd.zeroValue75
  t50 := Tryd.underlying66
  a50 := Tryd.isAgg66
  z50 := Tryd.sizeOf66
  v50 := Tryd.zeroValue66
  t53 := Tryd.underlying81
  a53 := Tryd.isAgg81
  z53 := Tryd.sizeOf81
  v53 := Tryd.zeroValue81
  t55 := Tryd.underlying83
  a55 := Tryd.isAgg83
  z55 := Tryd.sizeOf83
  v55 := Tryd.zeroValue83
  t66 := Tryd.underlying91
  a66 := Tryd.isAgg91
  z66 := Tryd.sizeOf91
  v66 := Tryd.zeroValue91
  t70 := Tryd.underlying95
  a70 := Tryd.isAgg95
  z70 := Tryd.sizeOf95
  v70 := Tryd.zeroValue95
  t76 := Tryd.underlying110
  a76 := Tryd.isAgg110
  z76 := Tryd.sizeOf110
  v76 := Tryd.zeroValue110
  t77 := Tryd.underlying111
  a77 := Tryd.isAgg111
  z77 := Tryd.sizeOf111
  v77 := Tryd.zeroValue111 }
end Go.Proofs
