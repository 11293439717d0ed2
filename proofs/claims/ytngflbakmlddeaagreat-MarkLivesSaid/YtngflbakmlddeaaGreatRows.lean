/-
  No cell of these rows narrows 'for every input' (looked for: loops, veiled, ifaces, maps, wideKeys, modest, calm, conditions, laid).
  DERIVED. THE GIVEN ROWS OF THIS SEAT. 7 by the template 'for every input the law returns true; each argument reads behind the call as it read before'; 0 by the template 'total and deterministic' (their statements: YtngflbakmlddeaaGreatTotals.lean).
  GIVEN WITH THE SEED: the statements are not yours to turn. If you find one false, say at which input.
  Laid BY PROGRAM, IN A SANDBOX (cutbox-rows.mjs): the forced cells as the released guide's own fill.sh prints them over the translation 9a0bbe14daf2e05b… (all of the seat's roots in one cut). By AI agents, Wed Nov 11 2026. No macro, syntax, notation, axiom, sorry.
-/
import Derived.Test.YtngflbakmlddeaaGreatChecked
import GoSem.Claim
import GoSem.ClaimJoined
import GoSem.ClaimMapViews
import Derived.JoinedTies
import Derived.KernelRfl
namespace Go.Proofs.YtngflbakmlddeaaGreat
/- THE CELL 'sum', in the pinned program and in every row, IS THE sha256 OF THE DUMP (.gsa) THAT YtngflbakmlddeaaGreatProg.lean LOADS. Nothing in Lean hashes anything: it is a label: what it is worth is what the hold of that sum in a sandbox is worth. -/
noncomputable def Tryz.pinned : Pinned := { name := "ytngflbakmlddeaagreat", sum := "9a0bbe14daf2e05ba22b65ff273bb25c20ab57fd088438ac420d794e1853b23b", checked := Tryz.checked }
namespace Rows
def none {H : Type} : Left H := { results := [], args := [] }

/-- 'reliquarylaw12.MarkWrites': WHATEVER THE INPUT: true; the input reads as it did. -/
def markWritesSpec : ChangeSpec := { name := "markWrites", fn := fun _ => fun
  | [d] => { results := [.lit (.bool true)], args := [d] }
  | _ => none }
def markWritesRow : OpenClaim := { program := "ytngflbakmlddeaagreat", sum := "9a0bbe14daf2e05ba22b65ff273bb25c20ab57fd088438ac420d794e1853b23b", func := "reliquary/reliquarylaw12.MarkWrites", spec := "markWrites", inPlace := ["internal/bytealg.IndexByteString", "internal/bytealg.IndexString", "internal/abi.NoEscape", "slices.overlaps[string]", "slices.overlaps[struct{}]"], unfollowed := true, recurses := true, named := ["internal/bytealg.MaxLen"], plainKeys := false, apart := false }
def MarkWritesSaid : Prop := markWritesRow.holds Tryz.pinned (OpenSpec.ofChange markWritesSpec)

/-- ITS FALSE NEIGHBOUR: 'it returns false'. Refute it at one input. -/
def markWritesWrong : ChangeSpec := { name := "markWrites", fn := fun _ => fun
  | [d] => { results := [.lit (.bool false)], args := [d] }
  | _ => none }
def MarkWritesWrongFalsely : Prop := markWritesRow.holds Tryz.pinned (OpenSpec.ofChange markWritesWrong)

/-- 'reliquarylaw12.MarkReads': WHATEVER THE INPUT: true; the input reads as it did. -/
def markReadsSpec : ChangeSpec := { name := "markReads", fn := fun _ => fun
  | [d] => { results := [.lit (.bool true)], args := [d] }
  | _ => none }
def markReadsRow : OpenClaim := { program := "ytngflbakmlddeaagreat", sum := "9a0bbe14daf2e05ba22b65ff273bb25c20ab57fd088438ac420d794e1853b23b", func := "reliquary/reliquarylaw12.MarkReads", spec := "markReads", inPlace := ["internal/bytealg.IndexByteString", "internal/bytealg.IndexString", "internal/abi.NoEscape", "slices.overlaps[string]", "slices.overlaps[struct{}]"], unfollowed := true, recurses := true, named := ["internal/bytealg.MaxLen"], plainKeys := false, apart := false }
def MarkReadsSaid : Prop := markReadsRow.holds Tryz.pinned (OpenSpec.ofChange markReadsSpec)

/-- ITS FALSE NEIGHBOUR: 'it returns false'. Refute it at one input. -/
def markReadsWrong : ChangeSpec := { name := "markReads", fn := fun _ => fun
  | [d] => { results := [.lit (.bool false)], args := [d] }
  | _ => none }
def MarkReadsWrongFalsely : Prop := markReadsRow.holds Tryz.pinned (OpenSpec.ofChange markReadsWrong)

/-- 'reliquarylaw12.MarkBack': WHATEVER THE INPUT: true; the input reads as it did. -/
def markBackSpec : ChangeSpec := { name := "markBack", fn := fun _ => fun
  | [d1, d2, d3] => { results := [.lit (.bool true)], args := [d1, d2, d3] }
  | _ => none }
def markBackRow : OpenClaim := { program := "ytngflbakmlddeaagreat", sum := "9a0bbe14daf2e05ba22b65ff273bb25c20ab57fd088438ac420d794e1853b23b", func := "reliquary/reliquarylaw12.MarkBack", spec := "markBack", inPlace := ["internal/bytealg.IndexByteString", "internal/bytealg.IndexString", "internal/abi.NoEscape", "slices.overlaps[string]", "slices.overlaps[struct{}]"], unfollowed := true, recurses := true, named := ["internal/bytealg.MaxLen"], plainKeys := false, apart := false }
def MarkBackSaid : Prop := markBackRow.holds Tryz.pinned (OpenSpec.ofChange markBackSpec)

/-- ITS FALSE NEIGHBOUR: 'it returns false'. Refute it at one input. -/
def markBackWrong : ChangeSpec := { name := "markBack", fn := fun _ => fun
  | [d1, d2, d3] => { results := [.lit (.bool false)], args := [d1, d2, d3] }
  | _ => none }
def MarkBackWrongFalsely : Prop := markBackRow.holds Tryz.pinned (OpenSpec.ofChange markBackWrong)

/-- 'reliquarylaw12.MarkLives': WHATEVER THE INPUT: true; the input reads as it did. -/
def markLivesSpec : ChangeSpec := { name := "markLives", fn := fun _ => fun
  | [d1, d2, d3] => { results := [.lit (.bool true)], args := [d1, d2, d3] }
  | _ => none }
def markLivesRow : OpenClaim := { program := "ytngflbakmlddeaagreat", sum := "9a0bbe14daf2e05ba22b65ff273bb25c20ab57fd088438ac420d794e1853b23b", func := "reliquary/reliquarylaw12.MarkLives", spec := "markLives", inPlace := ["internal/bytealg.IndexByteString", "internal/bytealg.IndexString", "internal/abi.NoEscape", "slices.overlaps[string]", "slices.overlaps[struct{}]"], unfollowed := true, recurses := true, named := ["internal/bytealg.MaxLen"], plainKeys := false, apart := false }
def MarkLivesSaid : Prop := markLivesRow.holds Tryz.pinned (OpenSpec.ofChange markLivesSpec)

/-- ITS FALSE NEIGHBOUR: 'it returns false'. Refute it at one input. -/
def markLivesWrong : ChangeSpec := { name := "markLives", fn := fun _ => fun
  | [d1, d2, d3] => { results := [.lit (.bool false)], args := [d1, d2, d3] }
  | _ => none }
def MarkLivesWrongFalsely : Prop := markLivesRow.holds Tryz.pinned (OpenSpec.ofChange markLivesWrong)

/-- 'reliquarylaw12.MarkNext': WHATEVER THE INPUT: true; the input reads as it did. -/
def markNextSpec : ChangeSpec := { name := "markNext", fn := fun _ => fun
  | [d1, d2] => { results := [.lit (.bool true)], args := [d1, d2] }
  | _ => none }
def markNextRow : OpenClaim := { program := "ytngflbakmlddeaagreat", sum := "9a0bbe14daf2e05ba22b65ff273bb25c20ab57fd088438ac420d794e1853b23b", func := "reliquary/reliquarylaw12.MarkNext", spec := "markNext", inPlace := ["internal/bytealg.IndexByteString", "internal/bytealg.IndexString", "internal/abi.NoEscape", "slices.overlaps[string]", "slices.overlaps[struct{}]"], unfollowed := true, recurses := true, named := ["internal/bytealg.MaxLen"], plainKeys := false, apart := false }
def MarkNextSaid : Prop := markNextRow.holds Tryz.pinned (OpenSpec.ofChange markNextSpec)

/-- ITS FALSE NEIGHBOUR: 'it returns false'. Refute it at one input. -/
def markNextWrong : ChangeSpec := { name := "markNext", fn := fun _ => fun
  | [d1, d2] => { results := [.lit (.bool false)], args := [d1, d2] }
  | _ => none }
def MarkNextWrongFalsely : Prop := markNextRow.holds Tryz.pinned (OpenSpec.ofChange markNextWrong)

/-- 'reliquarylaw12.MarkCuts': WHATEVER THE INPUT: true; the input reads as it did. -/
def markCutsSpec : ChangeSpec := { name := "markCuts", fn := fun _ => fun
  | [d1, d2, d3] => { results := [.lit (.bool true)], args := [d1, d2, d3] }
  | _ => none }
def markCutsRow : OpenClaim := { program := "ytngflbakmlddeaagreat", sum := "9a0bbe14daf2e05ba22b65ff273bb25c20ab57fd088438ac420d794e1853b23b", func := "reliquary/reliquarylaw12.MarkCuts", spec := "markCuts", inPlace := ["internal/bytealg.IndexByteString", "internal/bytealg.IndexString", "internal/abi.NoEscape", "slices.overlaps[string]", "slices.overlaps[struct{}]"], unfollowed := true, recurses := true, named := ["internal/bytealg.MaxLen"], plainKeys := false, apart := false }
def MarkCutsSaid : Prop := markCutsRow.holds Tryz.pinned (OpenSpec.ofChange markCutsSpec)

/-- ITS FALSE NEIGHBOUR: 'it returns false'. Refute it at one input. -/
def markCutsWrong : ChangeSpec := { name := "markCuts", fn := fun _ => fun
  | [d1, d2, d3] => { results := [.lit (.bool false)], args := [d1, d2, d3] }
  | _ => none }
def MarkCutsWrongFalsely : Prop := markCutsRow.holds Tryz.pinned (OpenSpec.ofChange markCutsWrong)

/-- 'reliquarylaw12.MarkAsks': WHATEVER THE INPUT: true; the input reads as it did. -/
def markAsksSpec : ChangeSpec := { name := "markAsks", fn := fun _ => fun
  | [d1, d2, d3] => { results := [.lit (.bool true)], args := [d1, d2, d3] }
  | _ => none }
def markAsksRow : OpenClaim := { program := "ytngflbakmlddeaagreat", sum := "9a0bbe14daf2e05ba22b65ff273bb25c20ab57fd088438ac420d794e1853b23b", func := "reliquary/reliquarylaw12.MarkAsks", spec := "markAsks", inPlace := ["internal/bytealg.IndexByteString", "internal/bytealg.IndexString", "internal/abi.NoEscape", "slices.overlaps[string]", "slices.overlaps[struct{}]"], unfollowed := true, recurses := true, named := ["internal/bytealg.MaxLen"], plainKeys := false, apart := false }
def MarkAsksSaid : Prop := markAsksRow.holds Tryz.pinned (OpenSpec.ofChange markAsksSpec)

/-- ITS FALSE NEIGHBOUR: 'it returns false'. Refute it at one input. -/
def markAsksWrong : ChangeSpec := { name := "markAsks", fn := fun _ => fun
  | [d1, d2, d3] => { results := [.lit (.bool false)], args := [d1, d2, d3] }
  | _ => none }
def MarkAsksWrongFalsely : Prop := markAsksRow.holds Tryz.pinned (OpenSpec.ofChange markAsksWrong)

/- THE SECOND FORM. 'bulk': how many values and letters a reading holds, each counted each time it is reached (what is shared counts as often as it is met; a slice's spare places count too). A statement '..UptoSaid' is the law's where the arguments, and the package variables that the reading takes, are together of bulk at most 1048576: NARROWER than '..Said'. Prove '..Said' where nothing that the law and all that it calls make is longer than what came in: it says more and counts as full. Else prove '..UptoSaid'. A law counts once. -/
mutual
def uptoBulk {H : Type} : DataW H → Nat
  | .lit (.string bytes) => bytes.length + 1
  | .lit _ => 1
  | .nil => 1
  | .ptr d => uptoBulk d + 1
  | .slice elems spare => uptoBulkAll elems + uptoBulkAll spare + 1
  | .agg parts => uptoBulkAll parts + 1
  | .iface _ d => uptoBulk d + 1
  | .map entries => uptoBulkEntries entries + 1
  | .held _ => 1
def uptoBulkAll {H : Type} : List (DataW H) → Nat
  | [] => 0
  | d :: r => uptoBulk d + uptoBulkAll r
def uptoBulkEntries {H : Type} : List (Lit × DataW H) → Nat
  | [] => 0
  | x :: r => uptoBulkEntry x + uptoBulkEntries r
def uptoBulkEntry {H : Type} : Lit × DataW H → Nat
  | (.string bytes, d) => bytes.length + uptoBulk d + 1
  | (_, d) => uptoBulk d + 1
 end
def uptoSmall : (H : Type) → List (DataW H) → Bool := fun _ ds => decide (uptoBulkAll ds ≤ 1048576)
def OpenSpec.upto (s : _root_.Go.ChangeSpec) : _root_.Go.OpenSpec := { _root_.Go.OpenSpec.ofChange s with cond := some uptoSmall }

/-- 'reliquarylaw12.MarkWrites', WHERE WHAT IT READS IS OF BULK AT MOST 1048576: true; the input reads as it did. -/
def markWritesUptoRow : OpenClaim := { program := "ytngflbakmlddeaagreat", sum := "9a0bbe14daf2e05ba22b65ff273bb25c20ab57fd088438ac420d794e1853b23b", func := "reliquary/reliquarylaw12.MarkWrites", spec := "markWrites", inPlace := ["internal/bytealg.IndexByteString", "internal/bytealg.IndexString", "internal/abi.NoEscape", "slices.overlaps[string]", "slices.overlaps[struct{}]"], unfollowed := true, recurses := true, named := ["internal/bytealg.MaxLen"], plainKeys := false, apart := false, narrowed := true }
def MarkWritesUptoSaid : Prop := markWritesUptoRow.holds Tryz.pinned (OpenSpec.upto markWritesSpec)

/-- 'reliquarylaw12.MarkReads', WHERE WHAT IT READS IS OF BULK AT MOST 1048576: true; the input reads as it did. -/
def markReadsUptoRow : OpenClaim := { program := "ytngflbakmlddeaagreat", sum := "9a0bbe14daf2e05ba22b65ff273bb25c20ab57fd088438ac420d794e1853b23b", func := "reliquary/reliquarylaw12.MarkReads", spec := "markReads", inPlace := ["internal/bytealg.IndexByteString", "internal/bytealg.IndexString", "internal/abi.NoEscape", "slices.overlaps[string]", "slices.overlaps[struct{}]"], unfollowed := true, recurses := true, named := ["internal/bytealg.MaxLen"], plainKeys := false, apart := false, narrowed := true }
def MarkReadsUptoSaid : Prop := markReadsUptoRow.holds Tryz.pinned (OpenSpec.upto markReadsSpec)

/-- 'reliquarylaw12.MarkBack', WHERE WHAT IT READS IS OF BULK AT MOST 1048576: true; the input reads as it did. -/
def markBackUptoRow : OpenClaim := { program := "ytngflbakmlddeaagreat", sum := "9a0bbe14daf2e05ba22b65ff273bb25c20ab57fd088438ac420d794e1853b23b", func := "reliquary/reliquarylaw12.MarkBack", spec := "markBack", inPlace := ["internal/bytealg.IndexByteString", "internal/bytealg.IndexString", "internal/abi.NoEscape", "slices.overlaps[string]", "slices.overlaps[struct{}]"], unfollowed := true, recurses := true, named := ["internal/bytealg.MaxLen"], plainKeys := false, apart := false, narrowed := true }
def MarkBackUptoSaid : Prop := markBackUptoRow.holds Tryz.pinned (OpenSpec.upto markBackSpec)

/-- 'reliquarylaw12.MarkLives', WHERE WHAT IT READS IS OF BULK AT MOST 1048576: true; the input reads as it did. -/
def markLivesUptoRow : OpenClaim := { program := "ytngflbakmlddeaagreat", sum := "9a0bbe14daf2e05ba22b65ff273bb25c20ab57fd088438ac420d794e1853b23b", func := "reliquary/reliquarylaw12.MarkLives", spec := "markLives", inPlace := ["internal/bytealg.IndexByteString", "internal/bytealg.IndexString", "internal/abi.NoEscape", "slices.overlaps[string]", "slices.overlaps[struct{}]"], unfollowed := true, recurses := true, named := ["internal/bytealg.MaxLen"], plainKeys := false, apart := false, narrowed := true }
def MarkLivesUptoSaid : Prop := markLivesUptoRow.holds Tryz.pinned (OpenSpec.upto markLivesSpec)

/-- 'reliquarylaw12.MarkNext', WHERE WHAT IT READS IS OF BULK AT MOST 1048576: true; the input reads as it did. -/
def markNextUptoRow : OpenClaim := { program := "ytngflbakmlddeaagreat", sum := "9a0bbe14daf2e05ba22b65ff273bb25c20ab57fd088438ac420d794e1853b23b", func := "reliquary/reliquarylaw12.MarkNext", spec := "markNext", inPlace := ["internal/bytealg.IndexByteString", "internal/bytealg.IndexString", "internal/abi.NoEscape", "slices.overlaps[string]", "slices.overlaps[struct{}]"], unfollowed := true, recurses := true, named := ["internal/bytealg.MaxLen"], plainKeys := false, apart := false, narrowed := true }
def MarkNextUptoSaid : Prop := markNextUptoRow.holds Tryz.pinned (OpenSpec.upto markNextSpec)

/-- 'reliquarylaw12.MarkCuts', WHERE WHAT IT READS IS OF BULK AT MOST 1048576: true; the input reads as it did. -/
def markCutsUptoRow : OpenClaim := { program := "ytngflbakmlddeaagreat", sum := "9a0bbe14daf2e05ba22b65ff273bb25c20ab57fd088438ac420d794e1853b23b", func := "reliquary/reliquarylaw12.MarkCuts", spec := "markCuts", inPlace := ["internal/bytealg.IndexByteString", "internal/bytealg.IndexString", "internal/abi.NoEscape", "slices.overlaps[string]", "slices.overlaps[struct{}]"], unfollowed := true, recurses := true, named := ["internal/bytealg.MaxLen"], plainKeys := false, apart := false, narrowed := true }
def MarkCutsUptoSaid : Prop := markCutsUptoRow.holds Tryz.pinned (OpenSpec.upto markCutsSpec)

/-- 'reliquarylaw12.MarkAsks', WHERE WHAT IT READS IS OF BULK AT MOST 1048576: true; the input reads as it did. -/
def markAsksUptoRow : OpenClaim := { program := "ytngflbakmlddeaagreat", sum := "9a0bbe14daf2e05ba22b65ff273bb25c20ab57fd088438ac420d794e1853b23b", func := "reliquary/reliquarylaw12.MarkAsks", spec := "markAsks", inPlace := ["internal/bytealg.IndexByteString", "internal/bytealg.IndexString", "internal/abi.NoEscape", "slices.overlaps[string]", "slices.overlaps[struct{}]"], unfollowed := true, recurses := true, named := ["internal/bytealg.MaxLen"], plainKeys := false, apart := false, narrowed := true }
def MarkAsksUptoSaid : Prop := markAsksUptoRow.holds Tryz.pinned (OpenSpec.upto markAsksSpec)

end Rows
end Go.Proofs.YtngflbakmlddeaaGreat
