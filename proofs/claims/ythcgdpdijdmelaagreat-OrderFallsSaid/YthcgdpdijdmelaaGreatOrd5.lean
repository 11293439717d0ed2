/- Texts compared by the reference, and the laws' own small functions: same, great, heights, walked. Conditions: the slices' cells as they lie. (Layer 11.) -/
import Derived.Test.YthcgdpdijdmelaaGreatOrd4
namespace Go.Proofs.YthcgdpdijdmelaaGreat.Ord
set_option linter.unusedVariables false
open Go.RowKit Go.Sort Go.Lib
/-- Whether something holds, as a bool. -/
noncomputable def holds (p : Prop) : Bool := @decide p (Classical.propDecidable p)
theorem holds_true {p : Prop} (h : p) : holds p = true := by unfold holds; exact @decide_eq_true p (Classical.propDecidable p) h
theorem holds_false {p : Prop} (h : ¬ p) : holds p = false := by unfold holds; exact @decide_eq_false p (Classical.propDecidable p) h
theorem holds_iff {p : Prop} : holds p = true ↔ p := by unfold holds; exact @decide_eq_true_iff p (Classical.propDecidable p)
def SameTexts (n m : Nat) (f g : Nat → ByteArray) : Prop := n = m ∧ ∀ i, i < n → f i = g i
def SameF (x y : Fv) : Prop := x.id = y.id ∧ x.h = y.h ∧ SameTexts x.np y.np x.p y.p
def GreatF (n : Nat) (f : Nat → Fv) : Prop := 60 < n ∨ ∃ i, i < n ∧ 20 < (f i).np
def HighF (n : Nat) (f : Nat → Fv) : Prop := ∀ i, i < n → (f i).h ≠ 9223372036854775807
end Go.Proofs.YthcgdpdijdmelaaGreat.Ord
