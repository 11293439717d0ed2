/- The reference's Log, walked. Conditions: at most 1,000,000 facts of 1,000,000 parents, readable. (Layer 11.) -/
import Derived.Test.YthcgdpdijdmelaaGreatOrd15
namespace Go.Proofs.YthcgdpdijdmelaaGreat.Ord
set_option linter.unusedVariables false
open Go.RowKit Go.Sort Go.Lib
theorem size_drewN (w : World) (n : Nat) : (w.drewN n).heap.size = w.heap.size := rfl
theorem place_is (n : Nat) (f : Nat → Fv) (hd : Dist n f) (k : Nat) (hk : k < n) : placeV f n (f k).id = (k : Int) := by
  unfold placeV
  rw [place_dist hd hk, if_pos hk]
end Go.Proofs.YthcgdpdijdmelaaGreat.Ord
