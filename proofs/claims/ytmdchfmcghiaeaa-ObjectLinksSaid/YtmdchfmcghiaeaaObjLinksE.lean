/- The law ObjectLinks answers true: what an object names rises, each once, and is just what is there in it. No conditions but the form's reach. -/
import Derived.Test.YtmdchfmcghiaeaaObjLinksT
import Derived.Test.YtmdchfmcghiaeaaObjLinksC
import Derived.Test.YtmdchfmcghiaeaaObjLinksD
namespace Go.Proofs.Ytmdchfmcghiaeaa.Obj
open Go.RowKit
theorem olinks_law (o : Plain) (es ps : Value) (w : World) (he : EntsV w es o) (hp : StrsC w ps o) :
    Calls Try.prog 12 #[obj o.k o.d es o.t ps o.h o.n] w fun e w' => e = .returned (.bool true) ∧ Below w.heap.size w w' := by
  by_cases hk : o.k = 3
  · by_cases hz : 0 < o.ne
    · exact olinks_com1 o es ps w he hp hk hz
    · exact olinks_com0 o es ps w he hp hk hz
  · exact olinks_tree o es ps w he hp hk trivial
end Go.Proofs.Ytmdchfmcghiaeaa.Obj
