/- The reference's Compare of two facts, walked: as the program's. No conditions. (Layer 11.) -/
import Derived.Test.YthcgdpdijdmelaaOrd1
namespace Go.Proofs.Ythcgdpdijdmelaa.Ord
set_option linter.unusedVariables false
open Go.RowKit Go.Sort Go.Lib
theorem ne_list {S T : ByteArray} (h : S ≠ T) : (S.toList == T.toList) = false := by
  cases hx : (S.toList == T.toList)
  · rfl
  · exfalso
    apply h
    have := eq_of_beq hx
    rw [ByteArray.toList_eq, ByteArray.toList_eq] at this
    exact data_inj this
theorem less_iff (S T : ByteArray) : Op.bytesLess S.toList T.toList = decide (S.data.toList < T.data.toList) := by
  rw [Go.Proofs.bytesLess_eq, ByteArray.toList_eq, ByteArray.toList_eq]
theorem ref_compare (x y : Fv) (W : World) : Calls Try.prog 13 #[.agg #[.string x.id, .int .i64 x.h, .slice x.pa x.np x.pc], .agg #[.string y.id, .int .i64 y.h, .slice y.pa y.np y.pc]] W fun e w' => e = .returned (.int .i64 (cmpF x y)) ∧ Below W.heap.size W w' := by
  have hb := Lib.hid (((Below.refl W.heap.size W).alloc (Nat.le_refl _) (.cells #[.string x.id, .int .i64 x.h, .slice x.pa x.np x.pc] 24)).alloc (by simp) (.cells #[.string y.id, .int .i64 y.h, .slice y.pa y.np y.pc] 24))
  obtain ⟨r, hr⟩ : ∃ r, r = cmpF x y := ⟨_, rfl⟩
  rw [← hr]
  rw [cmp_val] at hr
  obtain ⟨i1, h1, a1, n1, p1, q1⟩ := x
  obtain ⟨i2, h2, a2, n2, p2, q2⟩ := y
  simp only at hr hb ⊢
  have hless := less_iff i1 i2
  by_cases hlt : h1 < h2
  · rw [if_pos hlt] at hr
    subst hr
    clear hless
    go_enter Try.func13, Try.ntmps13
    go_wp2_with fail
    go_ret
    exact ⟨rfl, hb.out⟩
  have hge : decide (h1 < h2) = false := by simpa using hlt
  rw [if_neg hlt] at hr
  by_cases hgt : h2 < h1
  · rw [if_pos hgt] at hr
    subst hr
    have hne : (h1 == h2) = false := by simp; omega
    clear hless hlt hgt
    go_enter Try.func13, Try.ntmps13
    go_wp2_with fail
    go_ret
    exact ⟨rfl, hb.out⟩
  rw [if_neg hgt] at hr
  obtain rfl : h1 = h2 := by omega
  by_cases hi : i1 = i2
  · rw [if_pos hi] at hr
    subst hr
    subst hi
    have hself : (i1.toList == i1.toList) = true := by simp
    have hl : Op.bytesLess i1.toList i1.toList = false := by rw [hless]; simp [List.lt_irrefl]
    clear hless hlt hgt
    go_enter Try.func13, Try.ntmps13
    go_wp2_with fail
    go_ret
    exact ⟨rfl, hb.out⟩
  rw [if_neg hi] at hr
  have hne := ne_list hi
  by_cases hl : i1.data.toList < i2.data.toList
  · rw [if_pos hl] at hr
    subst hr
    have hl' : Op.bytesLess i1.toList i2.toList = true := by rw [hless]; simpa using hl
    clear hless hlt hgt hl hi
    go_enter Try.func13, Try.ntmps13
    go_wp2_with fail
    go_ret
    exact ⟨rfl, hb.out⟩
  · rw [if_neg hl] at hr
    subst hr
    have hl' : Op.bytesLess i1.toList i2.toList = false := by rw [hless]; simpa using hl
    clear hless hlt hgt hl hi
    go_enter Try.func13, Try.ntmps13
    go_wp2_with fail
    go_ret
    exact ⟨rfl, hb.out⟩
theorem below_drewGrow (W : World) (q : Nat) (os : Array Obj) : Below W.heap.size W (grow (W.drewN q) os) :=
  ⟨rfl, rfl, rfl, by simp [grow, World.drewN], fun j hj => by simp [grow, World.drewN, Array.getElem?_append, hj]⟩
/-- order.Compare: new blocks only. -/
theorem compare_below (x y : Fv) (W : World) : Calls Try.prog 12 #[.agg #[.string x.id, .int .i64 x.h, .slice x.pa x.np x.pc], .agg #[.string y.id, .int .i64 y.h, .slice y.pa y.np y.pc]] W fun e w' => e = .returned (.int .i64 (cmpF x y)) ∧ Below W.heap.size W w' :=
  (compare_any x y W).mono fun e w' ⟨he, q, os, hw⟩ => ⟨he, by rw [hw]; exact below_drewGrow W q os⟩
end Go.Proofs.Ythcgdpdijdmelaa.Ord
