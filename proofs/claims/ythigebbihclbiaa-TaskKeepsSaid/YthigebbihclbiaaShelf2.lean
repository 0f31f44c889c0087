/-
  DERIVED: THE SHELF's CONTRACTS AT THIS DUMP, IN PLAIN WORDS (tools/lay-plain.mjs out of 'TryMine2.lean', which tools/lay-shelf.mjs wrote): THE SAME DECLARATIONS UNDER THE SAME NAMES: 'import', 'namespace', 'open', 'def', 'theorem' AND NOTHING ELSE: no command of the shelf's: FOR A HAND-IN. Each laying: the table of numbers ('.._ren') and one theorem, a field a fact of the dump's own or the kernel's comparison; each contract: ONE APPLICATION.
-/
import Derived.Shelf.SlGeneric
import Derived.Ground.SlsfProg
import Derived.Shelf.SlSortCmp.WholeK
import Derived.Test.YthigebbihclbiaaProg
namespace Go.Proofs
open Go.Shelf
def Try.laysSortEdge_ren : Go.Shelf.Ren := ⟨fun | 6 => 75 | 15 => 84 | 14 => 83 | 28 => 95 | 29 => 96 | 20 => 87 | 21 => 88 | 22 => 89 | 23 => 90 | 24 => 91 | 25 => 92 | 26 => 93 | 27 => 94 | 46 => 98 | 47 => 99 | 48 => 100 | 49 => 101 | 50 => 102 | 57 => 103 | n => n, fun | 22 => 68 | 24 => 89 | 25 => 101 | 3 => 3 | 39 => 112 | 0 => 0 | 53 => 123 | 55 => 125 | 4 => 4 | 46 => 116 | 45 => 115 | 50 => 120 | 5 => 5 | 9 => 9 | 66 => 127 | 70 => 131 | 76 => 133 | 77 => 134 | n => n, fun | n => n⟩
theorem Try.laysSortEdge : Go.Proofs.SlLaysF0.n6 Try.prog Try.laysSortEdge_ren := {
  mixed := by kernel_rfl
  f6 := ⟨Try.f75.name, by decide, Try.func75.trans (congrArg some (by kernel_rfl))⟩
  f14 := ⟨Try.f83.name, by decide, Try.func83.trans (congrArg some (by kernel_rfl))⟩
  f15 := Try.func84.trans (congrArg some (by kernel_rfl))
  f20 := ⟨Try.f87.name, by decide, Try.func87.trans (congrArg some (by kernel_rfl))⟩
  f21 := ⟨Try.f88.name, by decide, Try.func88.trans (congrArg some (by kernel_rfl))⟩
  f22 := ⟨Try.f89.name, by decide, Try.func89.trans (congrArg some (by kernel_rfl))⟩
  f23 := ⟨Try.f90.name, by decide, Try.func90.trans (congrArg some (by kernel_rfl))⟩
  f24 := ⟨Try.f91.name, by decide, Try.func91.trans (congrArg some (by kernel_rfl))⟩
  f25 := ⟨Try.f92.name, by decide, Try.func92.trans (congrArg some (by kernel_rfl))⟩
  f26 := ⟨Try.f93.name, by decide, Try.func93.trans (congrArg some (by kernel_rfl))⟩
  f27 := ⟨Try.f94.name, by decide, Try.func94.trans (congrArg some (by kernel_rfl))⟩
  f28 := Try.func95.trans (congrArg some (by kernel_rfl))
  f29 := Try.func96.trans (congrArg some (by kernel_rfl))
  f46 := ⟨Try.f98.name, by decide, Try.func98.trans (congrArg some (by kernel_rfl))⟩
  f47 := Try.func99.trans (congrArg some (by kernel_rfl))
  f48 := Try.func100.trans (congrArg some (by kernel_rfl))
  f49 := ⟨Try.f101.name, by decide, Try.func101.trans (congrArg some (by kernel_rfl))⟩
  f50 := ⟨Try.f102.name, by decide, Try.func102.trans (congrArg some (by kernel_rfl))⟩
  f57 := ⟨Try.f103.name, by decide, Try.func103.trans (congrArg some (by kernel_rfl))⟩
  t0 := Try.underlying0
  a0 := Try.isAgg0
  z0 := Try.sizeOf0
  v0 := Try.zeroValue0
  t3 := Try.underlying3
  a3 := Try.isAgg3
  z3 := Try.sizeOf3
  v3 := Try.zeroValue3
  t4 := Try.underlying4
  a4 := Try.isAgg4
  z4 := Try.sizeOf4
  v4 := Try.zeroValue4
  t5 := Try.underlying5
  a5 := Try.isAgg5
  z5 := Try.sizeOf5
  v5 := Try.zeroValue5
  t9 := Try.underlying9
  a9 := Try.isAgg9
  z9 := Try.sizeOf9
  v9 := Try.zeroValue9
  t22 := Try.underlying68
  a22 := Try.isAgg68
  z22 := Try.sizeOf68
  v22 := Try.zeroValue68
  t25 := Try.underlying101
  a25 := Try.isAgg101
  z25 := Try.sizeOf101
  v25 := Try.zeroValue101
  t39 := Try.underlying112
  a39 := Try.isAgg112
  z39 := Try.sizeOf112
  v39 := Try.zeroValue112
  t45 := Try.underlying115
  a45 := Try.isAgg115
  z45 := Try.sizeOf115
  v45 := Try.zeroValue115
  t46 := Try.underlying116
  a46 := Try.isAgg116
  z46 := Try.sizeOf116
  v46 := Try.zeroValue116
  t50 := Try.underlying120
  a50 := Try.isAgg120
  z50 := Try.sizeOf120
  v50 := Try.zeroValue120
  t53 := Try.underlying123
  a53 := Try.isAgg123
  z53 := Try.sizeOf123
  v53 := Try.zeroValue123
  t55 := Try.underlying125
  a55 := Try.isAgg125
  z55 := Try.sizeOf125
  v55 := Try.zeroValue125
  t66 := Try.underlying127
  a66 := Try.isAgg127
  z66 := Try.sizeOf127
  v66 := Try.zeroValue127
  t70 := Try.underlying131
  a70 := Try.isAgg131
  z70 := Try.sizeOf131
  v70 := Try.zeroValue131
  t76 := Try.underlying133
  a76 := Try.isAgg133
  z76 := Try.sizeOf133
  v76 := Try.zeroValue133
  t77 := Try.underlying134
  a77 := Try.isAgg134
  z77 := Try.sizeOf134
  v77 := Try.zeroValue134 }
end Go.Proofs
