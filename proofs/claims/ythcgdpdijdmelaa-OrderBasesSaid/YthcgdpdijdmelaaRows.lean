/-
  No cell of these rows narrows 'for every input' (looked for: loops, veiled, ifaces, maps, wideKeys, modest, calm, conditions, laid).
  DERIVED. THE GIVEN ROWS OF THIS SEAT. 5 by the template 'for every input the law returns true; each argument reads behind the call as it read before'; 0 by the template 'total and deterministic' (their statements: YthcgdpdijdmelaaTotals.lean).
  GIVEN WITH THE SEED: the statements are not yours to turn. If you find one false, say at which input.
  Laid BY PROGRAM, IN A SANDBOX (cutbox-rows.mjs): the forced cells as the released guide's own fill.sh prints them over the translation 585d18352d71aa17… (all of the seat's roots in one cut). By AI agents, Wed Nov 11 2026. No macro, syntax, notation, axiom, sorry.
-/
import Derived.Test.YthcgdpdijdmelaaChecked
import GoSem.Claim
import GoSem.ClaimJoined
import GoSem.ClaimMapViews
import Derived.JoinedTies
import Derived.KernelRfl
namespace Go.Proofs.Ythcgdpdijdmelaa
/- THE CELL 'sum', in the pinned program and in every row, IS THE sha256 OF THE DUMP (.gsa) THAT YthcgdpdijdmelaaProg.lean LOADS. Nothing in Lean hashes anything: it is a label: what it is worth is what the hold of that sum in a sandbox is worth. -/
noncomputable def Try.pinned : Pinned := { name := "ythcgdpdijdmelaa", sum := "585d18352d71aa17820705854dec62ec1316b8ae79d9d2b41a3587b7fbd204a0", checked := Try.checked }
namespace Rows
def none {H : Type} : Left H := { results := [], args := [] }

/-- 'reliquarylaw11.OrderStands': WHATEVER THE INPUT: true; the input reads as it did. -/
def orderStandsSpec : ChangeSpec := { name := "orderStands", fn := fun _ => fun
  | [d1, d2, d3] => { results := [.lit (.bool true)], args := [d1, d2, d3] }
  | _ => none }
def orderStandsRow : OpenClaim := { program := "ythcgdpdijdmelaa", sum := "585d18352d71aa17820705854dec62ec1316b8ae79d9d2b41a3587b7fbd204a0", func := "reliquary/reliquarylaw11.OrderStands", spec := "orderStands", inPlace := ["internal/bytealg.abigen_runtime_cmpstring"], unfollowed := true, recurses := true, apart := false }
def OrderStandsSaid : Prop := orderStandsRow.holds Try.pinned (OpenSpec.ofChange orderStandsSpec)

/-- ITS FALSE NEIGHBOUR: 'it returns false'. Refute it at one input. -/
def orderStandsWrong : ChangeSpec := { name := "orderStands", fn := fun _ => fun
  | [d1, d2, d3] => { results := [.lit (.bool false)], args := [d1, d2, d3] }
  | _ => none }
def OrderStandsWrongFalsely : Prop := orderStandsRow.holds Try.pinned (OpenSpec.ofChange orderStandsWrong)

/-- 'reliquarylaw11.OrderLogs': WHATEVER THE INPUT: true; the input reads as it did. -/
def orderLogsSpec : ChangeSpec := { name := "orderLogs", fn := fun _ => fun
  | [d1, d2, d3] => { results := [.lit (.bool true)], args := [d1, d2, d3] }
  | _ => none }
def orderLogsRow : OpenClaim := { program := "ythcgdpdijdmelaa", sum := "585d18352d71aa17820705854dec62ec1316b8ae79d9d2b41a3587b7fbd204a0", func := "reliquary/reliquarylaw11.OrderLogs", spec := "orderLogs", inPlace := ["internal/bytealg.abigen_runtime_cmpstring"], unfollowed := true, recurses := true, apart := false }
def OrderLogsSaid : Prop := orderLogsRow.holds Try.pinned (OpenSpec.ofChange orderLogsSpec)

/-- ITS FALSE NEIGHBOUR: 'it returns false'. Refute it at one input. -/
def orderLogsWrong : ChangeSpec := { name := "orderLogs", fn := fun _ => fun
  | [d1, d2, d3] => { results := [.lit (.bool false)], args := [d1, d2, d3] }
  | _ => none }
def OrderLogsWrongFalsely : Prop := orderLogsRow.holds Try.pinned (OpenSpec.ofChange orderLogsWrong)

/-- 'reliquarylaw11.OrderOne': WHATEVER THE INPUT: true; the input reads as it did. -/
def orderOneSpec : ChangeSpec := { name := "orderOne", fn := fun _ => fun
  | [d1, d2, d3] => { results := [.lit (.bool true)], args := [d1, d2, d3] }
  | _ => none }
def orderOneRow : OpenClaim := { program := "ythcgdpdijdmelaa", sum := "585d18352d71aa17820705854dec62ec1316b8ae79d9d2b41a3587b7fbd204a0", func := "reliquary/reliquarylaw11.OrderOne", spec := "orderOne", inPlace := ["internal/bytealg.abigen_runtime_cmpstring"], unfollowed := true, recurses := true, apart := false }
def OrderOneSaid : Prop := orderOneRow.holds Try.pinned (OpenSpec.ofChange orderOneSpec)

/-- ITS FALSE NEIGHBOUR: 'it returns false'. Refute it at one input. -/
def orderOneWrong : ChangeSpec := { name := "orderOne", fn := fun _ => fun
  | [d1, d2, d3] => { results := [.lit (.bool false)], args := [d1, d2, d3] }
  | _ => none }
def OrderOneWrongFalsely : Prop := orderOneRow.holds Try.pinned (OpenSpec.ofChange orderOneWrong)

/-- 'reliquarylaw11.OrderGrows': WHATEVER THE INPUT: true; the input reads as it did. -/
def orderGrowsSpec : ChangeSpec := { name := "orderGrows", fn := fun _ => fun
  | [d1, d2, d3] => { results := [.lit (.bool true)], args := [d1, d2, d3] }
  | _ => none }
def orderGrowsRow : OpenClaim := { program := "ythcgdpdijdmelaa", sum := "585d18352d71aa17820705854dec62ec1316b8ae79d9d2b41a3587b7fbd204a0", func := "reliquary/reliquarylaw11.OrderGrows", spec := "orderGrows", inPlace := ["internal/bytealg.abigen_runtime_cmpstring", "slices.overlaps[string]", "slices.overlaps[struct{}]"], unfollowed := true, recurses := true, apart := false }
def OrderGrowsSaid : Prop := orderGrowsRow.holds Try.pinned (OpenSpec.ofChange orderGrowsSpec)

/-- ITS FALSE NEIGHBOUR: 'it returns false'. Refute it at one input. -/
def orderGrowsWrong : ChangeSpec := { name := "orderGrows", fn := fun _ => fun
  | [d1, d2, d3] => { results := [.lit (.bool false)], args := [d1, d2, d3] }
  | _ => none }
def OrderGrowsWrongFalsely : Prop := orderGrowsRow.holds Try.pinned (OpenSpec.ofChange orderGrowsWrong)

/-- 'reliquarylaw11.OrderBases': WHATEVER THE INPUT: true; the input reads as it did. -/
def orderBasesSpec : ChangeSpec := { name := "orderBases", fn := fun _ => fun
  | [d1, d2, d3] => { results := [.lit (.bool true)], args := [d1, d2, d3] }
  | _ => none }
def orderBasesRow : OpenClaim := { program := "ythcgdpdijdmelaa", sum := "585d18352d71aa17820705854dec62ec1316b8ae79d9d2b41a3587b7fbd204a0", func := "reliquary/reliquarylaw11.OrderBases", spec := "orderBases", inPlace := ["internal/bytealg.abigen_runtime_cmpstring", "slices.overlaps[string]", "slices.overlaps[struct{}]"], unfollowed := true, recurses := true, apart := false }
def OrderBasesSaid : Prop := orderBasesRow.holds Try.pinned (OpenSpec.ofChange orderBasesSpec)

/-- ITS FALSE NEIGHBOUR: 'it returns false'. Refute it at one input. -/
def orderBasesWrong : ChangeSpec := { name := "orderBases", fn := fun _ => fun
  | [d1, d2, d3] => { results := [.lit (.bool false)], args := [d1, d2, d3] }
  | _ => none }
def OrderBasesWrongFalsely : Prop := orderBasesRow.holds Try.pinned (OpenSpec.ofChange orderBasesWrong)

/- THE SECOND FORM. 'bulk': how many values and letters a reading holds, each counted each time it is reached (what is shared counts as often as it is met; a slice's spare places count too). A statement '..UptoSaid' is the law's where the arguments, and the package variables that the reading takes, are together of bulk at most 1048576: NARROWER than '..Said'. Prove '..Said' where nothing that the law and all that it calls make is longer than what came in: it says more and counts as full. Else prove '..UptoSaid'. A law counts once. -/
mutual
def uptoBulk {H : Type} : DataW H → Nat
  | .lit (.string bytes) => bytes.length + 1
  | .lit _ => 1
  | .nil => 1
  | .ptr d => uptoBulk d + 1
  | .slice elems spare => uptoBulkAll elems + uptoBulkAll spare + 1
  | .agg parts => uptoBulkAll parts + 1
  | .iface _ d => uptoBulk d + 1
  | .map entries => uptoBulkEntries entries + 1
  | .held _ => 1
def uptoBulkAll {H : Type} : List (DataW H) → Nat
  | [] => 0
  | d :: r => uptoBulk d + uptoBulkAll r
def uptoBulkEntries {H : Type} : List (Lit × DataW H) → Nat
  | [] => 0
  | x :: r => uptoBulkEntry x + uptoBulkEntries r
def uptoBulkEntry {H : Type} : Lit × DataW H → Nat
  | (.string bytes, d) => bytes.length + uptoBulk d + 1
  | (_, d) => uptoBulk d + 1
 end
def uptoSmall : (H : Type) → List (DataW H) → Bool := fun _ ds => decide (uptoBulkAll ds ≤ 1048576)
def OpenSpec.upto (s : _root_.Go.ChangeSpec) : _root_.Go.OpenSpec := { _root_.Go.OpenSpec.ofChange s with cond := some uptoSmall }

/-- 'reliquarylaw11.OrderStands', WHERE WHAT IT READS IS OF BULK AT MOST 1048576: true; the input reads as it did. -/
def orderStandsUptoRow : OpenClaim := { program := "ythcgdpdijdmelaa", sum := "585d18352d71aa17820705854dec62ec1316b8ae79d9d2b41a3587b7fbd204a0", func := "reliquary/reliquarylaw11.OrderStands", spec := "orderStands", inPlace := ["internal/bytealg.abigen_runtime_cmpstring"], unfollowed := true, recurses := true, apart := false, narrowed := true }
def OrderStandsUptoSaid : Prop := orderStandsUptoRow.holds Try.pinned (OpenSpec.upto orderStandsSpec)

/-- 'reliquarylaw11.OrderLogs', WHERE WHAT IT READS IS OF BULK AT MOST 1048576: true; the input reads as it did. -/
def orderLogsUptoRow : OpenClaim := { program := "ythcgdpdijdmelaa", sum := "585d18352d71aa17820705854dec62ec1316b8ae79d9d2b41a3587b7fbd204a0", func := "reliquary/reliquarylaw11.OrderLogs", spec := "orderLogs", inPlace := ["internal/bytealg.abigen_runtime_cmpstring"], unfollowed := true, recurses := true, apart := false, narrowed := true }
def OrderLogsUptoSaid : Prop := orderLogsUptoRow.holds Try.pinned (OpenSpec.upto orderLogsSpec)

/-- 'reliquarylaw11.OrderOne', WHERE WHAT IT READS IS OF BULK AT MOST 1048576: true; the input reads as it did. -/
def orderOneUptoRow : OpenClaim := { program := "ythcgdpdijdmelaa", sum := "585d18352d71aa17820705854dec62ec1316b8ae79d9d2b41a3587b7fbd204a0", func := "reliquary/reliquarylaw11.OrderOne", spec := "orderOne", inPlace := ["internal/bytealg.abigen_runtime_cmpstring"], unfollowed := true, recurses := true, apart := false, narrowed := true }
def OrderOneUptoSaid : Prop := orderOneUptoRow.holds Try.pinned (OpenSpec.upto orderOneSpec)

/-- 'reliquarylaw11.OrderGrows', WHERE WHAT IT READS IS OF BULK AT MOST 1048576: true; the input reads as it did. -/
def orderGrowsUptoRow : OpenClaim := { program := "ythcgdpdijdmelaa", sum := "585d18352d71aa17820705854dec62ec1316b8ae79d9d2b41a3587b7fbd204a0", func := "reliquary/reliquarylaw11.OrderGrows", spec := "orderGrows", inPlace := ["internal/bytealg.abigen_runtime_cmpstring", "slices.overlaps[string]", "slices.overlaps[struct{}]"], unfollowed := true, recurses := true, apart := false, narrowed := true }
def OrderGrowsUptoSaid : Prop := orderGrowsUptoRow.holds Try.pinned (OpenSpec.upto orderGrowsSpec)

/-- 'reliquarylaw11.OrderBases', WHERE WHAT IT READS IS OF BULK AT MOST 1048576: true; the input reads as it did. -/
def orderBasesUptoRow : OpenClaim := { program := "ythcgdpdijdmelaa", sum := "585d18352d71aa17820705854dec62ec1316b8ae79d9d2b41a3587b7fbd204a0", func := "reliquary/reliquarylaw11.OrderBases", spec := "orderBases", inPlace := ["internal/bytealg.abigen_runtime_cmpstring", "slices.overlaps[string]", "slices.overlaps[struct{}]"], unfollowed := true, recurses := true, apart := false, narrowed := true }
def OrderBasesUptoSaid : Prop := orderBasesUptoRow.holds Try.pinned (OpenSpec.upto orderBasesSpec)

end Rows
end Go.Proofs.Ythcgdpdijdmelaa
