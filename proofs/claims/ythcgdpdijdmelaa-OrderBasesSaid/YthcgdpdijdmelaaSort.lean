/-
  DERIVED: THE SHELF's CONTRACTS AT THIS DUMP, IN PLAIN WORDS (tools/lay-plain.mjs out of 'TrySort.lean', which tools/lay-shelf.mjs wrote): THE SAME DECLARATIONS UNDER THE SAME NAMES: 'import', 'namespace', 'open', 'def', 'theorem' AND NOTHING ELSE: no command of the shelf's: FOR A HAND-IN. Each laying: the table of numbers ('.._ren') and one theorem, a field a fact of the dump's own or the kernel's comparison; each contract: ONE APPLICATION.
-/
import Derived.Shelf.SlGeneric
import Derived.Shelf.SlSortCmp.NoneTotal
import Derived.Ground.SlsfProg
import Derived.Test.YthcgdpdijdmelaaProg
namespace Go.Proofs
open Go.Shelf
def Try.sortFact_ren : Go.Shelf.Ren := ⟨fun | 6 => 52 | 15 => 61 | 14 => 64 | 28 => 78 | 29 => 79 | 20 => 81 | 21 => 82 | 22 => 83 | 23 => 84 | 24 => 85 | 25 => 86 | 26 => 87 | 27 => 88 | 46 => 101 | 47 => 96 | 48 => 97 | 49 => 102 | 50 => 103 | 57 => 107 | n => n, fun | 22 => 25 | 24 => 24 | 25 => 30 | 3 => 3 | 39 => 44 | 0 => 0 | 53 => 111 | 55 => 113 | 4 => 4 | 46 => 104 | 45 => 103 | 50 => 83 | 5 => 5 | 9 => 9 | 66 => 123 | 70 => 127 | 76 => 131 | 77 => 132 | n => n, fun | n => n⟩
theorem Try.sortFact : Go.Proofs.SlLaysF0.n6 Try.prog Try.sortFact_ren := {
  mixed := by kernel_rfl
  f6 := ⟨Try.f52.name, by decide, Try.func52.trans (congrArg some (by kernel_rfl))⟩
  f14 := ⟨Try.f64.name, by decide, Try.func64.trans (congrArg some (by kernel_rfl))⟩
  f15 := Try.func61.trans (congrArg some (by kernel_rfl))
  f20 := ⟨Try.f81.name, by decide, Try.func81.trans (congrArg some (by kernel_rfl))⟩
  f21 := ⟨Try.f82.name, by decide, Try.func82.trans (congrArg some (by kernel_rfl))⟩
  f22 := ⟨Try.f83.name, by decide, Try.func83.trans (congrArg some (by kernel_rfl))⟩
  f23 := ⟨Try.f84.name, by decide, Try.func84.trans (congrArg some (by kernel_rfl))⟩
  f24 := ⟨Try.f85.name, by decide, Try.func85.trans (congrArg some (by kernel_rfl))⟩
  f25 := ⟨Try.f86.name, by decide, Try.func86.trans (congrArg some (by kernel_rfl))⟩
  f26 := ⟨Try.f87.name, by decide, Try.func87.trans (congrArg some (by kernel_rfl))⟩
  f27 := ⟨Try.f88.name, by decide, Try.func88.trans (congrArg some (by kernel_rfl))⟩
  f28 := Try.func78.trans (congrArg some (by kernel_rfl))
  f29 := Try.func79.trans (congrArg some (by kernel_rfl))
  f46 := ⟨Try.f101.name, by decide, Try.func101.trans (congrArg some (by kernel_rfl))⟩
  f47 := Try.func96.trans (congrArg some (by kernel_rfl))
  f48 := Try.func97.trans (congrArg some (by kernel_rfl))
  f49 := ⟨Try.f102.name, by decide, Try.func102.trans (congrArg some (by kernel_rfl))⟩
  f50 := ⟨Try.f103.name, by decide, Try.func103.trans (congrArg some (by kernel_rfl))⟩
  f57 := ⟨Try.f107.name, by decide, Try.func107.trans (congrArg some (by kernel_rfl))⟩
  t0 := Try.underlying0
  a0 := Try.isAgg0
  z0 := Try.sizeOf0
  v0 := Try.zeroValue0
  t3 := Try.underlying3
  a3 := Try.isAgg3
  z3 := Try.sizeOf3
  v3 := Try.zeroValue3
  t4 := Try.underlying4
  a4 := Try.isAgg4
  z4 := Try.sizeOf4
  v4 := Try.zeroValue4
  t5 := Try.underlying5
  a5 := Try.isAgg5
  z5 := Try.sizeOf5
  v5 := Try.zeroValue5
  t9 := Try.underlying9
  a9 := Try.isAgg9
  z9 := Try.sizeOf9
  v9 := Try.zeroValue9
  t22 := Try.underlying25
  a22 := Try.isAgg25
  z22 := Try.sizeOf25
  v22 := Try.zeroValue25
  t25 := Try.underlying30
  a25 := Try.isAgg30
  z25 := Try.sizeOf30
  v25 := Try.zeroValue30
  t39 := Try.underlying44
  a39 := Try.isAgg44
  z39 := Try.sizeOf44
  v39 := Try.zeroValue44
  t45 := Try.underlying103
  a45 := Try.isAgg103
  z45 := Try.sizeOf103
  v45 := Try.zeroValue103
  t46 := Try.underlying104
  a46 := Try.isAgg104
  z46 := Try.sizeOf104
  v46 := Try.zeroValue104
  t50 := Try.underlying83
  a50 := Try.isAgg83
  z50 := Try.sizeOf83
  v50 := Try.zeroValue83
  t53 := Try.underlying111
  a53 := Try.isAgg111
  z53 := Try.sizeOf111
  v53 := Try.zeroValue111
  t55 := Try.underlying113
  a55 := Try.isAgg113
  z55 := Try.sizeOf113
  v55 := Try.zeroValue113
  t66 := Try.underlying123
  a66 := Try.isAgg123
  z66 := Try.sizeOf123
  v66 := Try.zeroValue123
  t70 := Try.underlying127
  a70 := Try.isAgg127
  z70 := Try.sizeOf127
  v70 := Try.zeroValue127
  t76 := Try.underlying131
  a76 := Try.isAgg131
  z76 := Try.sizeOf131
  v76 := Try.zeroValue131
  t77 := Try.underlying132
  a77 := Try.isAgg132
  z77 := Try.sizeOf132
  v77 := Try.zeroValue132 }
end Go.Proofs
