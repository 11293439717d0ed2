/- The reference's Compare of two facts, walked: as the program's. No conditions. (Layer 11.) -/
import Derived.Test.YthcgdpdijdmelaaGreatOrd1
namespace Go.Proofs.YthcgdpdijdmelaaGreat.Ord
set_option linter.unusedVariables false
open Go.RowKit Go.Sort Go.Lib
theorem ne_list {S T : ByteArray} (h : S ≠ T) : (S.toList == T.toList) = false := by
  cases hx : (S.toList == T.toList)
  · rfl
  · exfalso
    apply h
    have := eq_of_beq hx
    rw [ByteArray.toList_eq, ByteArray.toList_eq] at this
    exact data_inj this
theorem less_iff (S T : ByteArray) : Op.bytesLess S.toList T.toList = decide (S.data.toList < T.data.toList) := by
  rw [Go.Proofs.bytesLess_eq, ByteArray.toList_eq, ByteArray.toList_eq]
theorem below_drewGrow (W : World) (q : Nat) (os : Array Obj) : Below W.heap.size W (grow (W.drewN q) os) :=
  ⟨rfl, rfl, rfl, by simp [grow, World.drewN], fun j hj => by simp [grow, World.drewN, Array.getElem?_append, hj]⟩
/-- order.Compare: new blocks only. -/
theorem compare_below (x y : Fv) (W : World) : Calls Tryz.prog 12 #[.agg #[.string x.id, .int .i64 x.h, .slice x.pa x.np x.pc], .agg #[.string y.id, .int .i64 y.h, .slice y.pa y.np y.pc]] W fun e w' => e = .returned (.int .i64 (cmpF x y)) ∧ Below W.heap.size W w' :=
  (compare_any x y W).mono fun e w' ⟨he, q, os, hw⟩ => ⟨he, by rw [hw]; exact below_drewGrow W q os⟩
end Go.Proofs.YthcgdpdijdmelaaGreat.Ord
