/-
  DERIVED: THE SHELF's CONTRACTS AT THIS DUMP, IN PLAIN WORDS (tools/lay-plain.mjs out of 'TryzIns.lean', which tools/lay-shelf.mjs wrote): THE SAME DECLARATIONS UNDER THE SAME NAMES: 'import', 'namespace', 'open', 'def', 'theorem' AND NOTHING ELSE: no command of the shelf's: FOR A HAND-IN. Each laying: the table of numbers ('.._ren') and one theorem, a field a fact of the dump's own or the kernel's comparison; each contract: ONE APPLICATION.
-/
import Derived.Shelf.Spec.SlicesInsert
import Derived.Shelf.Spec.SlicesInsertGrow
import Derived.Shelf.Spec.SearchS
import Derived.Ground.Names2Prog
import Derived.Test.YthcgdpdijdmelaaGreatProg
namespace Go.Proofs
open Go.Shelf
def Tryz.insI_ren : Go.Shelf.Ren := ⟨fun | 21 => 26 | 27 => 46 | 28 => 47 | 35 => 61 | 39 => 86 | n => n, fun | 22 => 52 | 3 => 3 | 4 => 4 | 0 => 0 | n => n, fun | n => n⟩
theorem Tryz.insI : Go.Proofs.Lays2.n21 Tryz.prog Tryz.insI_ren := {
  mixed := by kernel_rfl
  f21 := Tryz.func26.trans (congrArg some (by kernel_rfl))
  f27 := Tryz.func46.trans (congrArg some (by kernel_rfl))
  f28 := Tryz.func47.trans (congrArg some (by kernel_rfl))
  f35 := Tryz.func61.trans (congrArg some (by kernel_rfl))
  f39 := Tryz.func86.trans (congrArg some (by kernel_rfl))
  t0 := Tryz.underlying0
  a0 := Tryz.isAgg0
  z0 := Tryz.sizeOf0
  v0 := Tryz.zeroValue0
  t3 := Tryz.underlying3
  a3 := Tryz.isAgg3
  z3 := Tryz.sizeOf3
  v3 := Tryz.zeroValue3
  t4 := Tryz.underlying4
  a4 := Tryz.isAgg4
  z4 := Tryz.sizeOf4
  v4 := Tryz.zeroValue4
  t22 := Tryz.underlying52
  a22 := Tryz.isAgg52
  z22 := Tryz.sizeOf52
  v22 := Tryz.zeroValue52
  i3 := by kernel_rfl }
def Tryz.insS_ren : Go.Shelf.Ren := ⟨fun | 22 => 25 | 29 => 44 | 30 => 45 | 36 => 60 | 17 => 85 | n => n, fun | 24 => 26 | 9 => 9 | 3 => 3 | 4 => 4 | 0 => 0 | n => n, fun | n => n⟩
theorem Tryz.insS : Go.Proofs.Lays2.n22 Tryz.prog Tryz.insS_ren := {
  mixed := by kernel_rfl
  f17 := Tryz.func85.trans (congrArg some (by kernel_rfl))
  f22 := Tryz.func25.trans (congrArg some (by kernel_rfl))
  f29 := Tryz.func44.trans (congrArg some (by kernel_rfl))
  f30 := Tryz.func45.trans (congrArg some (by kernel_rfl))
  f36 := Tryz.func60.trans (congrArg some (by kernel_rfl))
  t0 := Tryz.underlying0
  a0 := Tryz.isAgg0
  z0 := Tryz.sizeOf0
  v0 := Tryz.zeroValue0
  t3 := Tryz.underlying3
  a3 := Tryz.isAgg3
  z3 := Tryz.sizeOf3
  v3 := Tryz.zeroValue3
  t4 := Tryz.underlying4
  a4 := Tryz.isAgg4
  z4 := Tryz.sizeOf4
  v4 := Tryz.zeroValue4
  t9 := Tryz.underlying9
  a9 := Tryz.isAgg9
  z9 := Tryz.sizeOf9
  v9 := Tryz.zeroValue9
  t24 := Tryz.underlying26
  a24 := Tryz.isAgg26
  z24 := Tryz.sizeOf26
  v24 := Tryz.zeroValue26
  i9 := by kernel_rfl }
def Tryz.bsS_ren : Go.Shelf.Ren := ⟨fun | 26 => 43 | 33 => 58 | 34 => 59 | 38 => 84 | n => n, fun | 24 => 26 | 9 => 9 | 3 => 3 | 4 => 4 | 40 => 29 | 0 => 0 | n => n, fun | n => n⟩
theorem Tryz.bsS : Go.Proofs.Lays2.n26 Tryz.prog Tryz.bsS_ren := {
  mixed := by kernel_rfl
  f26 := Tryz.func43.trans (congrArg some (by kernel_rfl))
  f33 := Tryz.func58.trans (congrArg some (by kernel_rfl))
  f34 := Tryz.func59.trans (congrArg some (by kernel_rfl))
  f38 := Tryz.func84.trans (congrArg some (by kernel_rfl))
  t0 := Tryz.underlying0
  a0 := Tryz.isAgg0
  z0 := Tryz.sizeOf0
  v0 := Tryz.zeroValue0
  t3 := Tryz.underlying3
  a3 := Tryz.isAgg3
  z3 := Tryz.sizeOf3
  v3 := Tryz.zeroValue3
  t4 := Tryz.underlying4
  a4 := Tryz.isAgg4
  z4 := Tryz.sizeOf4
  v4 := Tryz.zeroValue4
  t9 := Tryz.underlying9
  a9 := Tryz.isAgg9
  z9 := Tryz.sizeOf9
  v9 := Tryz.zeroValue9
  t24 := Tryz.underlying26
  a24 := Tryz.isAgg26
  z24 := Tryz.sizeOf26
  v24 := Tryz.zeroValue26
  t40 := Tryz.underlying29
  a40 := Tryz.isAgg29
  z40 := Tryz.sizeOf29
  v40 := Tryz.zeroValue29 }
end Go.Proofs
