/-
  DERIVED: THE SHELF's CONTRACTS AT THIS DUMP, IN PLAIN WORDS (tools/lay-plain.mjs out of 'TryzIns.lean', which tools/lay-shelf.mjs wrote): THE SAME DECLARATIONS UNDER THE SAME NAMES: 'import', 'namespace', 'open', 'def', 'theorem' AND NOTHING ELSE: no command of the shelf's: FOR A HAND-IN. Each laying: the table of numbers ('.._ren') and one theorem, a field a fact of the dump's own or the kernel's comparison; each contract: ONE APPLICATION.
-/
import Derived.Shelf.Spec.SlicesInsert
import Derived.Shelf.Spec.SlicesInsertGrow
import Derived.Shelf.Spec.SearchS
import Derived.Ground.Names2Prog
import Derived.Test.YtjkhmjklmclpoaaGreatProg
namespace Go.Proofs
open Go.Shelf
def Tryz.insS_ren : Go.Shelf.Ren := ⟨fun | 22 => 85 | 29 => 112 | 30 => 113 | 36 => 131 | 17 => 138 | n => n, fun | 24 => 22 | 9 => 9 | 3 => 3 | 4 => 4 | 0 => 0 | n => n, fun | n => n⟩
theorem Tryz.insS : Go.Proofs.Lays2.n22 Tryz.prog Tryz.insS_ren := {
  mixed := by kernel_rfl
  f17 := Tryz.func138.trans (congrArg some (by kernel_rfl))
  f22 := Tryz.func85.trans (congrArg some (by kernel_rfl))
  f29 := Tryz.func112.trans (congrArg some (by kernel_rfl))
  f30 := Tryz.func113.trans (congrArg some (by kernel_rfl))
  f36 := Tryz.func131.trans (congrArg some (by kernel_rfl))
  t0 := Tryz.underlying0
  a0 := Tryz.isAgg0
  z0 := Tryz.sizeOf0
  v0 := Tryz.zeroValue0
  t3 := Tryz.underlying3
  a3 := Tryz.isAgg3
  z3 := Tryz.sizeOf3
  v3 := Tryz.zeroValue3
  t4 := Tryz.underlying4
  a4 := Tryz.isAgg4
  z4 := Tryz.sizeOf4
  v4 := Tryz.zeroValue4
  t9 := Tryz.underlying9
  a9 := Tryz.isAgg9
  z9 := Tryz.sizeOf9
  v9 := Tryz.zeroValue9
  t24 := Tryz.underlying22
  a24 := Tryz.isAgg22
  z24 := Tryz.sizeOf22
  v24 := Tryz.zeroValue22
  i9 := by kernel_rfl }
def Tryz.bsS_ren : Go.Shelf.Ren := ⟨fun | 26 => 44 | 33 => 71 | 34 => 72 | 38 => 95 | n => n, fun | 24 => 22 | 9 => 9 | 3 => 3 | 4 => 4 | 40 => 41 | 0 => 0 | n => n, fun | n => n⟩
theorem Tryz.bsS : Go.Proofs.Lays2.n26 Tryz.prog Tryz.bsS_ren := {
  mixed := by kernel_rfl
  f26 := Tryz.func44.trans (congrArg some (by kernel_rfl))
  f33 := Tryz.func71.trans (congrArg some (by kernel_rfl))
  f34 := Tryz.func72.trans (congrArg some (by kernel_rfl))
  f38 := Tryz.func95.trans (congrArg some (by kernel_rfl))
  t0 := Tryz.underlying0
  a0 := Tryz.isAgg0
  z0 := Tryz.sizeOf0
  v0 := Tryz.zeroValue0
  t3 := Tryz.underlying3
  a3 := Tryz.isAgg3
  z3 := Tryz.sizeOf3
  v3 := Tryz.zeroValue3
  t4 := Tryz.underlying4
  a4 := Tryz.isAgg4
  z4 := Tryz.sizeOf4
  v4 := Tryz.zeroValue4
  t9 := Tryz.underlying9
  a9 := Tryz.isAgg9
  z9 := Tryz.sizeOf9
  v9 := Tryz.zeroValue9
  t24 := Tryz.underlying22
  a24 := Tryz.isAgg22
  z24 := Tryz.sizeOf22
  v24 := Tryz.zeroValue22
  t40 := Tryz.underlying41
  a40 := Tryz.isAgg41
  z40 := Tryz.sizeOf41
  v40 := Tryz.zeroValue41 }
end Go.Proofs
