/- The reference's Good of any object whose slices are known. No conditions but the slices' own cells. -/
import Derived.Test.YtmdchfmcghiaeaaDec
import Derived.Test.YtmdchfmcghiaeaaRefGood
import Derived.Test.YtmdchfmcghiaeaaRefGood3
namespace Go.Proofs.Ytmdchfmcghiaeaa.Obj
open Go.RowKit
theorem rgood_any (o : Plain) (es ps : Value) (w : World) (he : EntsV w es o) (hp : StrsV w ps o) :
    Calls Try.prog 32 #[obj o.k o.d es o.t ps o.h o.n] w fun e w' => e = .returned (.bool o.good) ∧ Below w.heap.size w w' := by
  obtain ⟨k, d, ne, nm, kd, id, t, np, f, h, n⟩ := o
  obtain ⟨ao, cap, rfl, he⟩ := he
  obtain ⟨ap, cp, rfl, hp⟩ := hp
  simp only [Plain.good] at *
  by_cases h1 : k = 1
  · subst h1
    rw [if_pos rfl]
    exact ref_good_blob d _ t _ h n w
  rw [if_neg h1]
  by_cases h2 : k = 2
  · subst h2
    rw [if_pos rfl]
    exact ref_good_tree d ao ne cap nm kd id t _ h n w he
  rw [if_neg h2]
  by_cases h3 : k = 3
  · subst h3
    rw [if_pos rfl]
    exact ref_good_commit d _ t ap np cp f h n w hp
  rw [if_neg h3]
  exact ref_good_odd k d _ t _ h n w h1 h2 h3
end Go.Proofs.Ytmdchfmcghiaeaa.Obj
