/- An object in a block of its own, its slices readable. -/
import Derived.Test.YtmdchfmcghiaeaaEncodeAll
namespace Go.Proofs.Ytmdchfmcghiaeaa.Obj
open Go.RowKit
/-- The object's block, seven cells. -/
abbrev objCells (o : Plain) (es ps : Value) : Array Value := #[.int .i64 o.k, .string o.d, es, .string o.t, ps, .int .i64 o.h, .string o.n]
structure One (w : World) (b : Nat) (o : Plain) (es ps : Value) : Prop where
  blk : BlkIs w b 34 (objCells o es ps)
  ents : EntsV w es o
  strs : StrsC w ps o
theorem One.later {w w' : World} {b : Nat} {o : Plain} {es ps : Value} (h : One w b o es ps) (hb : Below w.heap.size w w') : One w' b o es ps := ⟨h.blk.below hb h.blk.lt, h.ents.later hb, h.strs.later hb⟩
theorem One.new {w : World} {o : Plain} {es ps : Value} (he : EntsV w es o) (hp : StrsC w ps o) : One (w.alloc (.cells (objCells o es ps) 34)) w.heap.size o es ps := by
  have hb := (Below.refl w.heap.size w).alloc (Nat.le_refl _) (.cells (objCells o es ps) 34)
  exact ⟨BlkIs.new _ _ _, he.later hb, hp.later hb⟩
end Go.Proofs.Ytmdchfmcghiaeaa.Obj
