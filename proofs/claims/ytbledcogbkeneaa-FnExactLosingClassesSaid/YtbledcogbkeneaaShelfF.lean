/-
  DERIVED: THE SHELF's CONTRACTS AT THIS DUMP, IN PLAIN WORDS (tools/lay-plain.mjs out of 'TryShelf.lean', which tools/lay-shelf.mjs wrote): THE SAME DECLARATIONS UNDER THE SAME NAMES: 'import', 'namespace', 'open', 'def', 'theorem' AND NOTHING ELSE: no command of the shelf's: FOR A HAND-IN. Each laying: the table of numbers ('.._ren') and one theorem, a field a fact of the dump's own or the kernel's comparison; each contract: ONE APPLICATION.
-/
import Derived.Shelf.Small.Wraps
import Derived.Shelf.SlSortCmp.Whole1
import Derived.Test.YtbledcogbkeneaaProg
namespace Go.Proofs
open Go.Shelf
def Try.lays122_ren : Go.Shelf.Ren := ⟨fun | 122 => 103 | 215 => 110 | n => n, fun | 3 => 3 | 4 => 4 | n => n, fun | n => n⟩
theorem Try.lays122 : Go.Proofs.Lays.n122 Try.prog Try.lays122_ren := {
  mixed := by kernel_rfl
  f122 := Try.func103.trans (congrArg some (by kernel_rfl))
  f215 := Try.func110.trans (congrArg some (by kernel_rfl))
  t3 := Try.underlying3
  a3 := Try.isAgg3
  z3 := Try.sizeOf3
  v3 := Try.zeroValue3
  t4 := Try.underlying4
  a4 := Try.isAgg4
  z4 := Try.sizeOf4
  v4 := Try.zeroValue4 }
def Try.lays_f86_ren : Go.Shelf.Ren := ⟨fun | 6 => 86 | 15 => 83 | 14 => 101 | 28 => 99 | 29 => 100 | 20 => 111 | 21 => 112 | 22 => 113 | 23 => 114 | 24 => 115 | 25 => 116 | 26 => 117 | 27 => 118 | 46 => 120 | 47 => 106 | 48 => 107 | 49 => 121 | 50 => 122 | 57 => 123 | n => n, fun | 22 => 63 | 24 => 22 | 25 => 93 | 3 => 3 | 39 => 92 | 0 => 0 | 53 => 104 | 55 => 106 | 4 => 4 | 46 => 98 | 45 => 97 | 50 => 25 | 5 => 5 | 9 => 9 | 66 => 109 | 70 => 113 | 76 => 121 | 77 => 122 | n => n, fun | n => n⟩
theorem Try.lays_f86 : Go.Proofs.SlLaysF.n6 Try.prog Try.lays_f86_ren := {
  mixed := by kernel_rfl
  f6 := ⟨Try.f86.name, by decide, Try.func86.trans (congrArg some (by kernel_rfl))⟩
  f14 := ⟨Try.f101.name, by decide, Try.func101.trans (congrArg some (by kernel_rfl))⟩
  f15 := Try.func83.trans (congrArg some (by kernel_rfl))
  f20 := ⟨Try.f111.name, by decide, Try.func111.trans (congrArg some (by kernel_rfl))⟩
  f21 := ⟨Try.f112.name, by decide, Try.func112.trans (congrArg some (by kernel_rfl))⟩
  f22 := ⟨Try.f113.name, by decide, Try.func113.trans (congrArg some (by kernel_rfl))⟩
  f23 := ⟨Try.f114.name, by decide, Try.func114.trans (congrArg some (by kernel_rfl))⟩
  f24 := ⟨Try.f115.name, by decide, Try.func115.trans (congrArg some (by kernel_rfl))⟩
  f25 := ⟨Try.f116.name, by decide, Try.func116.trans (congrArg some (by kernel_rfl))⟩
  f26 := ⟨Try.f117.name, by decide, Try.func117.trans (congrArg some (by kernel_rfl))⟩
  f27 := ⟨Try.f118.name, by decide, Try.func118.trans (congrArg some (by kernel_rfl))⟩
  f28 := Try.func99.trans (congrArg some (by kernel_rfl))
  f29 := Try.func100.trans (congrArg some (by kernel_rfl))
  f46 := ⟨Try.f120.name, by decide, Try.func120.trans (congrArg some (by kernel_rfl))⟩
  f47 := Try.func106.trans (congrArg some (by kernel_rfl))
  f48 := Try.func107.trans (congrArg some (by kernel_rfl))
  f49 := ⟨Try.f121.name, by decide, Try.func121.trans (congrArg some (by kernel_rfl))⟩
  f50 := ⟨Try.f122.name, by decide, Try.func122.trans (congrArg some (by kernel_rfl))⟩
  f57 := ⟨Try.f123.name, by decide, Try.func123.trans (congrArg some (by kernel_rfl))⟩
  t0 := Try.underlying0
  a0 := Try.isAgg0
  z0 := Try.sizeOf0
  v0 := Try.zeroValue0
  t3 := Try.underlying3
  a3 := Try.isAgg3
  z3 := Try.sizeOf3
  v3 := Try.zeroValue3
  t4 := Try.underlying4
  a4 := Try.isAgg4
  z4 := Try.sizeOf4
  v4 := Try.zeroValue4
  t5 := Try.underlying5
  a5 := Try.isAgg5
  z5 := Try.sizeOf5
  v5 := Try.zeroValue5
  t9 := Try.underlying9
  a9 := Try.isAgg9
  z9 := Try.sizeOf9
  v9 := Try.zeroValue9
  t22 := Try.underlying63
  a22 := Try.isAgg63
  z22 := Try.sizeOf63
  v22 := Try.zeroValue63
  a24 := Try.isAgg22
  z24 := Try.sizeOf22
  t25 := Try.underlying93
  a25 := Try.isAgg93
  z25 := Try.sizeOf93
  v25 := Try.zeroValue93
  t39 := Try.underlying92
  a39 := Try.isAgg92
  z39 := Try.sizeOf92
  v39 := Try.zeroValue92
  t45 := Try.underlying97
  a45 := Try.isAgg97
  z45 := Try.sizeOf97
  v45 := Try.zeroValue97
  t46 := Try.underlying98
  a46 := Try.isAgg98
  z46 := Try.sizeOf98
  v46 := Try.zeroValue98
  t50 := Try.underlying25
  a50 := Try.isAgg25
  z50 := Try.sizeOf25
  v50 := Try.zeroValue25
  t53 := Try.underlying104
  a53 := Try.isAgg104
  z53 := Try.sizeOf104
  v53 := Try.zeroValue104
  t55 := Try.underlying106
  a55 := Try.isAgg106
  z55 := Try.sizeOf106
  v55 := Try.zeroValue106
  t66 := Try.underlying109
  a66 := Try.isAgg109
  z66 := Try.sizeOf109
  v66 := Try.zeroValue109
  t70 := Try.underlying113
  a70 := Try.isAgg113
  z70 := Try.sizeOf113
  v70 := Try.zeroValue113
  t76 := Try.underlying121
  a76 := Try.isAgg121
  z76 := Try.sizeOf121
  v76 := Try.zeroValue121
  t77 := Try.underlying122
  a77 := Try.isAgg122
  z77 := Try.sizeOf122
  v77 := Try.zeroValue122 }
end Go.Proofs
