/- Several texts in one. (Layer 19.) -/
import Derived.Test.YtljenganlknhbaaGreatTrH
/- trie.Draw, walked. Conditions: at most 1,000,000 ids. (Layer 10.) -/
namespace Go.Proofs.YtljenganlknhbaaGreat.Tr
set_option linter.unusedVariables false
set_option linter.unusedSimpArgs false
open Go.RowKit Go.Lib
open Set (StrAt scells El Rise)
/-- A prefix and one digit more. -/
def ext (p : ByteArray) (d : Nat) : ByteArray := p ++ ⟨#[sgn d]⟩
end Go.Proofs.YtljenganlknhbaaGreat.Tr

/- Plain laws of cells: below, sets, the cell that Look tells is right. No program is walked. (Layer 10.) -/
namespace Go.Proofs.YtljenganlknhbaaGreat.Tr
set_option linter.unusedVariables false
open Go.RowKit Go.Lib
open Set (StrAt scells El Rise)
theorem IsSet.below {l : List ByteArray} (h : IsSet l) (p : ByteArray) : IsSet (belowL l p) :=
  isSet_of (h.rise.filter _) fun x hx => h.size (List.mem_filter.1 hx).1
end Go.Proofs.YtljenganlknhbaaGreat.Tr

/- The kids of a cell are the sums at the longer prefixes. No program is walked. (Layer 10.) -/
namespace Go.Proofs.YtljenganlknhbaaGreat.Tr
set_option linter.unusedVariables false
open Go.RowKit Go.Lib
open Set (StrAt scells El Rise)
end Go.Proofs.YtljenganlknhbaaGreat.Tr

