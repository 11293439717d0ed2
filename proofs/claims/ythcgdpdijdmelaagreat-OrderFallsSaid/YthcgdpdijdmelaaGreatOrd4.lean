/- The reference's Best, walked; place; texts compared; the laws' own small functions. Conditions: the slices' cells as they lie. (Layer 11.) -/
import Derived.Test.YthcgdpdijdmelaaGreatOrd3
namespace Go.Proofs.YthcgdpdijdmelaaGreat.Ord
set_option linter.unusedVariables false
open Go.RowKit Go.Sort Go.Lib
/-- Where the first fact with an id stands; -1: nowhere. -/
def placeV (f : Nat → Fv) (n : Nat) (x : ByteArray) : Int := if place f x n < n then (place f x n : Int) else -1
theorem place_low (f : Nat → Fv) (x : ByteArray) : ∀ n k, k ≤ n → (∀ j, j < k → (f j).id ≠ x) → k ≤ place f x n
  | 0, k, hk, _ => by omega
  | n + 1, k, hk, h => by
    rcases Nat.lt_or_ge n k with h1 | h1
    · obtain rfl : k = n + 1 := by omega
      have ih := place_low f x n n (Nat.le_refl _) fun j hj => h j (by omega)
      have := place_le f x n
      unfold place
      rw [if_neg (by omega), if_neg (h n (by omega))]
      exact Nat.le_refl _
    · have ih := place_low f x n k h1 h
      unfold place
      split
      · exact ih
      · split <;> omega
theorem place_found {f : Nat → Fv} {x : ByteArray} {n k : Nat} (hk : k < n) (h : ∀ j, j < k → (f j).id ≠ x) (he : (f k).id = x) : place f x n = k := by
  have h1 := place_low f x n k (by omega) h
  rcases Nat.lt_or_ge k (place f x n) with h2 | h2
  · exact absurd he (place_before f x n k h2)
  · omega
end Go.Proofs.YthcgdpdijdmelaaGreat.Ord
