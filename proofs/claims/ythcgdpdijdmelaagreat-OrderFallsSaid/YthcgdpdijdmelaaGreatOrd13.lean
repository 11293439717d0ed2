/- The reference's right, walked. Conditions: the facts readable, the parents among them. (Layer 11.) -/
import Derived.Test.YthcgdpdijdmelaaGreatOrd11
namespace Go.Proofs.YthcgdpdijdmelaaGreat.Ord
set_option linter.unusedVariables false
open Go.RowKit Go.Sort Go.Lib
open Go.Proofs.YthcgdpdijdmelaaGreat.Obj (most IntsAt icells icells_snoc height)
end Go.Proofs.YthcgdpdijdmelaaGreat.Ord
