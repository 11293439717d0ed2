/-
  DERIVED: THE SHELF's CONTRACTS AT THIS DUMP, IN PLAIN WORDS (tools/lay-plain.mjs out of 'TryIns.lean', which tools/lay-shelf.mjs wrote): THE SAME DECLARATIONS UNDER THE SAME NAMES: 'import', 'namespace', 'open', 'def', 'theorem' AND NOTHING ELSE: no command of the shelf's: FOR A HAND-IN. Each laying: the table of numbers ('.._ren') and one theorem, a field a fact of the dump's own or the kernel's comparison; each contract: ONE APPLICATION.
-/
import Derived.Shelf.Spec.SlicesInsert
import Derived.Shelf.Spec.SlicesInsertGrow
import Derived.Shelf.Spec.SearchS
import Derived.Ground.Names2Prog
import Derived.Test.YthcgdpdijdmelaaProg
namespace Go.Proofs
open Go.Shelf
def Try.insS_ren : Go.Shelf.Ren := ⟨fun | 22 => 65 | 29 => 89 | 30 => 90 | 36 => 104 | 17 => 108 | n => n, fun | 24 => 22 | 9 => 9 | 3 => 3 | 4 => 4 | 0 => 0 | n => n, fun | n => n⟩
theorem Try.insS : Go.Proofs.Lays2.n22 Try.prog Try.insS_ren := {
  mixed := by kernel_rfl
  f17 := Try.func108.trans (congrArg some (by kernel_rfl))
  f22 := Try.func65.trans (congrArg some (by kernel_rfl))
  f29 := Try.func89.trans (congrArg some (by kernel_rfl))
  f30 := Try.func90.trans (congrArg some (by kernel_rfl))
  f36 := Try.func104.trans (congrArg some (by kernel_rfl))
  t0 := Try.underlying0
  a0 := Try.isAgg0
  z0 := Try.sizeOf0
  v0 := Try.zeroValue0
  t3 := Try.underlying3
  a3 := Try.isAgg3
  z3 := Try.sizeOf3
  v3 := Try.zeroValue3
  t4 := Try.underlying4
  a4 := Try.isAgg4
  z4 := Try.sizeOf4
  v4 := Try.zeroValue4
  t9 := Try.underlying9
  a9 := Try.isAgg9
  z9 := Try.sizeOf9
  v9 := Try.zeroValue9
  t24 := Try.underlying22
  a24 := Try.isAgg22
  z24 := Try.sizeOf22
  v24 := Try.zeroValue22
  i9 := by kernel_rfl }
def Try.bsS_ren : Go.Shelf.Ren := ⟨fun | 26 => 62 | 33 => 75 | 34 => 80 | 38 => 100 | n => n, fun | 24 => 22 | 9 => 9 | 3 => 3 | 4 => 4 | 40 => 44 | 0 => 0 | n => n, fun | n => n⟩
theorem Try.bsS : Go.Proofs.Lays2.n26 Try.prog Try.bsS_ren := {
  mixed := by kernel_rfl
  f26 := Try.func62.trans (congrArg some (by kernel_rfl))
  f33 := Try.func75.trans (congrArg some (by kernel_rfl))
  f34 := Try.func80.trans (congrArg some (by kernel_rfl))
  f38 := Try.func100.trans (congrArg some (by kernel_rfl))
  t0 := Try.underlying0
  a0 := Try.isAgg0
  z0 := Try.sizeOf0
  v0 := Try.zeroValue0
  t3 := Try.underlying3
  a3 := Try.isAgg3
  z3 := Try.sizeOf3
  v3 := Try.zeroValue3
  t4 := Try.underlying4
  a4 := Try.isAgg4
  z4 := Try.sizeOf4
  v4 := Try.zeroValue4
  t9 := Try.underlying9
  a9 := Try.isAgg9
  z9 := Try.sizeOf9
  v9 := Try.zeroValue9
  t24 := Try.underlying22
  a24 := Try.isAgg22
  z24 := Try.sizeOf22
  v24 := Try.zeroValue22
  t40 := Try.underlying44
  a40 := Try.isAgg44
  z40 := Try.sizeOf44
  v40 := Try.zeroValue44 }
end Go.Proofs
