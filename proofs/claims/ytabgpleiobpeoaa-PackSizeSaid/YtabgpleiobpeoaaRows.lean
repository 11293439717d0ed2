/-
  No cell of these rows narrows 'for every input' (looked for: loops, veiled, ifaces, maps, wideKeys, modest, calm, conditions, laid).
  DERIVED. THE GIVEN ROWS OF THIS SEAT. 6 by the template 'for every input the law returns true; each argument reads behind the call as it read before'; 0 by the template 'total and deterministic' (their statements: YtabgpleiobpeoaaTotals.lean).
  GIVEN WITH THE SEED: the statements are not yours to turn. If you find one false, say at which input.
  Laid BY PROGRAM, IN A SANDBOX (cutbox-rows.mjs): the forced cells as the released guide's own fill.sh prints them over the translation a19c95081642e8bb… (all of the seat's roots in one cut). By AI agents, Wed Nov 11 2026. No macro, syntax, notation, axiom, sorry.
-/
import Derived.Test.YtabgpleiobpeoaaChecked
import GoSem.Claim
import GoSem.ClaimJoined
import GoSem.ClaimMapViews
import Derived.JoinedTies
import Derived.KernelRfl
namespace Go.Proofs.Ytabgpleiobpeoaa
/- THE CELL 'sum', in the pinned program and in every row, IS THE sha256 OF THE DUMP (.gsa) THAT YtabgpleiobpeoaaProg.lean LOADS. Nothing in Lean hashes anything: it is a label: what it is worth is what the hold of that sum in a sandbox is worth. -/
noncomputable def Try.pinned : Pinned := { name := "ytabgpleiobpeoaa", sum := "a19c95081642e8bb81d2ff11dbcbf0c0f454eba6147f8c51f5e3a0f2cdc61ecc", checked := Try.checked }
namespace Rows
def none {H : Type} : Left H := { results := [], args := [] }

/-- 'reliquarylaw07.PackMakes': WHATEVER THE INPUT: true; the input reads as it did. -/
def packMakesSpec : ChangeSpec := { name := "packMakes", fn := fun _ => fun
  | [d] => { results := [.lit (.bool true)], args := [d] }
  | _ => none }
def packMakesRow : OpenClaim := { program := "ytabgpleiobpeoaa", sum := "a19c95081642e8bb81d2ff11dbcbf0c0f454eba6147f8c51f5e3a0f2cdc61ecc", func := "reliquary/reliquarylaw07.PackMakes", spec := "packMakes", inPlace := ["internal/bytealg.abigen_runtime_cmpstring", "internal/abi.NoEscape"], unfollowed := true, recurses := true, apart := false }
def PackMakesSaid : Prop := packMakesRow.holds Try.pinned (OpenSpec.ofChange packMakesSpec)

/-- ITS FALSE NEIGHBOUR: 'it returns false'. Refute it at one input. -/
def packMakesWrong : ChangeSpec := { name := "packMakes", fn := fun _ => fun
  | [d] => { results := [.lit (.bool false)], args := [d] }
  | _ => none }
def PackMakesWrongFalsely : Prop := packMakesRow.holds Try.pinned (OpenSpec.ofChange packMakesWrong)

/-- 'reliquarylaw07.PackReads': WHATEVER THE INPUT: true; the input reads as it did. -/
def packReadsSpec : ChangeSpec := { name := "packReads", fn := fun _ => fun
  | [d] => { results := [.lit (.bool true)], args := [d] }
  | _ => none }
def packReadsRow : OpenClaim := { program := "ytabgpleiobpeoaa", sum := "a19c95081642e8bb81d2ff11dbcbf0c0f454eba6147f8c51f5e3a0f2cdc61ecc", func := "reliquary/reliquarylaw07.PackReads", spec := "packReads", inPlace := ["internal/bytealg.abigen_runtime_cmpstring", "internal/abi.NoEscape"], unfollowed := true, recurses := true, apart := false }
def PackReadsSaid : Prop := packReadsRow.holds Try.pinned (OpenSpec.ofChange packReadsSpec)

/-- ITS FALSE NEIGHBOUR: 'it returns false'. Refute it at one input. -/
def packReadsWrong : ChangeSpec := { name := "packReads", fn := fun _ => fun
  | [d] => { results := [.lit (.bool false)], args := [d] }
  | _ => none }
def PackReadsWrongFalsely : Prop := packReadsRow.holds Try.pinned (OpenSpec.ofChange packReadsWrong)

/-- 'reliquarylaw07.PackBack': WHATEVER THE INPUT: true; the input reads as it did. -/
def packBackSpec : ChangeSpec := { name := "packBack", fn := fun _ => fun
  | [d] => { results := [.lit (.bool true)], args := [d] }
  | _ => none }
def packBackRow : OpenClaim := { program := "ytabgpleiobpeoaa", sum := "a19c95081642e8bb81d2ff11dbcbf0c0f454eba6147f8c51f5e3a0f2cdc61ecc", func := "reliquary/reliquarylaw07.PackBack", spec := "packBack", inPlace := ["internal/bytealg.abigen_runtime_cmpstring", "internal/abi.NoEscape"], unfollowed := true, recurses := true, apart := false }
def PackBackSaid : Prop := packBackRow.holds Try.pinned (OpenSpec.ofChange packBackSpec)

/-- ITS FALSE NEIGHBOUR: 'it returns false'. Refute it at one input. -/
def packBackWrong : ChangeSpec := { name := "packBack", fn := fun _ => fun
  | [d] => { results := [.lit (.bool false)], args := [d] }
  | _ => none }
def PackBackWrongFalsely : Prop := packBackRow.holds Try.pinned (OpenSpec.ofChange packBackWrong)

/-- 'reliquarylaw07.PackFound': WHATEVER THE INPUT: true; the input reads as it did. -/
def packFoundSpec : ChangeSpec := { name := "packFound", fn := fun _ => fun
  | [d1, d2] => { results := [.lit (.bool true)], args := [d1, d2] }
  | _ => none }
def packFoundRow : OpenClaim := { program := "ytabgpleiobpeoaa", sum := "a19c95081642e8bb81d2ff11dbcbf0c0f454eba6147f8c51f5e3a0f2cdc61ecc", func := "reliquary/reliquarylaw07.PackFound", spec := "packFound", inPlace := ["internal/bytealg.abigen_runtime_cmpstring", "internal/abi.NoEscape"], unfollowed := true, recurses := true, apart := false }
def PackFoundSaid : Prop := packFoundRow.holds Try.pinned (OpenSpec.ofChange packFoundSpec)

/-- ITS FALSE NEIGHBOUR: 'it returns false'. Refute it at one input. -/
def packFoundWrong : ChangeSpec := { name := "packFound", fn := fun _ => fun
  | [d1, d2] => { results := [.lit (.bool false)], args := [d1, d2] }
  | _ => none }
def PackFoundWrongFalsely : Prop := packFoundRow.holds Try.pinned (OpenSpec.ofChange packFoundWrong)

/-- 'reliquarylaw07.PackTells': WHATEVER THE INPUT: true; the input reads as it did. -/
def packTellsSpec : ChangeSpec := { name := "packTells", fn := fun _ => fun
  | [d1, d2, d3] => { results := [.lit (.bool true)], args := [d1, d2, d3] }
  | _ => none }
def packTellsRow : OpenClaim := { program := "ytabgpleiobpeoaa", sum := "a19c95081642e8bb81d2ff11dbcbf0c0f454eba6147f8c51f5e3a0f2cdc61ecc", func := "reliquary/reliquarylaw07.PackTells", spec := "packTells", inPlace := ["internal/bytealg.abigen_runtime_cmpstring", "internal/abi.NoEscape"], unfollowed := true, recurses := true, apart := false }
def PackTellsSaid : Prop := packTellsRow.holds Try.pinned (OpenSpec.ofChange packTellsSpec)

/-- ITS FALSE NEIGHBOUR: 'it returns false'. Refute it at one input. -/
def packTellsWrong : ChangeSpec := { name := "packTells", fn := fun _ => fun
  | [d1, d2, d3] => { results := [.lit (.bool false)], args := [d1, d2, d3] }
  | _ => none }
def PackTellsWrongFalsely : Prop := packTellsRow.holds Try.pinned (OpenSpec.ofChange packTellsWrong)

/-- 'reliquarylaw07.PackSize': WHATEVER THE INPUT: true; the input reads as it did. -/
def packSizeSpec : ChangeSpec := { name := "packSize", fn := fun _ => fun
  | [d1, d2] => { results := [.lit (.bool true)], args := [d1, d2] }
  | _ => none }
def packSizeRow : OpenClaim := { program := "ytabgpleiobpeoaa", sum := "a19c95081642e8bb81d2ff11dbcbf0c0f454eba6147f8c51f5e3a0f2cdc61ecc", func := "reliquary/reliquarylaw07.PackSize", spec := "packSize", inPlace := ["internal/bytealg.abigen_runtime_cmpstring", "internal/abi.NoEscape"], unfollowed := true, recurses := true, apart := false }
def PackSizeSaid : Prop := packSizeRow.holds Try.pinned (OpenSpec.ofChange packSizeSpec)

/-- ITS FALSE NEIGHBOUR: 'it returns false'. Refute it at one input. -/
def packSizeWrong : ChangeSpec := { name := "packSize", fn := fun _ => fun
  | [d1, d2] => { results := [.lit (.bool false)], args := [d1, d2] }
  | _ => none }
def PackSizeWrongFalsely : Prop := packSizeRow.holds Try.pinned (OpenSpec.ofChange packSizeWrong)

/- THE SECOND FORM. 'bulk': how many values and letters a reading holds, each counted each time it is reached (what is shared counts as often as it is met; a slice's spare places count too). A statement '..UptoSaid' is the law's where the arguments, and the package variables that the reading takes, are together of bulk at most 1048576: NARROWER than '..Said'. Prove '..Said' where nothing that the law and all that it calls make is longer than what came in: it says more and counts as full. Else prove '..UptoSaid'. A law counts once. -/
mutual
def uptoBulk {H : Type} : DataW H → Nat
  | .lit (.string bytes) => bytes.length + 1
  | .lit _ => 1
  | .nil => 1
  | .ptr d => uptoBulk d + 1
  | .slice elems spare => uptoBulkAll elems + uptoBulkAll spare + 1
  | .agg parts => uptoBulkAll parts + 1
  | .iface _ d => uptoBulk d + 1
  | .map entries => uptoBulkEntries entries + 1
  | .held _ => 1
def uptoBulkAll {H : Type} : List (DataW H) → Nat
  | [] => 0
  | d :: r => uptoBulk d + uptoBulkAll r
def uptoBulkEntries {H : Type} : List (Lit × DataW H) → Nat
  | [] => 0
  | x :: r => uptoBulkEntry x + uptoBulkEntries r
def uptoBulkEntry {H : Type} : Lit × DataW H → Nat
  | (.string bytes, d) => bytes.length + uptoBulk d + 1
  | (_, d) => uptoBulk d + 1
 end
def uptoSmall : (H : Type) → List (DataW H) → Bool := fun _ ds => decide (uptoBulkAll ds ≤ 1048576)
def OpenSpec.upto (s : _root_.Go.ChangeSpec) : _root_.Go.OpenSpec := { _root_.Go.OpenSpec.ofChange s with cond := some uptoSmall }

/-- 'reliquarylaw07.PackMakes', WHERE WHAT IT READS IS OF BULK AT MOST 1048576: true; the input reads as it did. -/
def packMakesUptoRow : OpenClaim := { program := "ytabgpleiobpeoaa", sum := "a19c95081642e8bb81d2ff11dbcbf0c0f454eba6147f8c51f5e3a0f2cdc61ecc", func := "reliquary/reliquarylaw07.PackMakes", spec := "packMakes", inPlace := ["internal/bytealg.abigen_runtime_cmpstring", "internal/abi.NoEscape"], unfollowed := true, recurses := true, apart := false, narrowed := true }
def PackMakesUptoSaid : Prop := packMakesUptoRow.holds Try.pinned (OpenSpec.upto packMakesSpec)

/-- 'reliquarylaw07.PackReads', WHERE WHAT IT READS IS OF BULK AT MOST 1048576: true; the input reads as it did. -/
def packReadsUptoRow : OpenClaim := { program := "ytabgpleiobpeoaa", sum := "a19c95081642e8bb81d2ff11dbcbf0c0f454eba6147f8c51f5e3a0f2cdc61ecc", func := "reliquary/reliquarylaw07.PackReads", spec := "packReads", inPlace := ["internal/bytealg.abigen_runtime_cmpstring", "internal/abi.NoEscape"], unfollowed := true, recurses := true, apart := false, narrowed := true }
def PackReadsUptoSaid : Prop := packReadsUptoRow.holds Try.pinned (OpenSpec.upto packReadsSpec)

/-- 'reliquarylaw07.PackBack', WHERE WHAT IT READS IS OF BULK AT MOST 1048576: true; the input reads as it did. -/
def packBackUptoRow : OpenClaim := { program := "ytabgpleiobpeoaa", sum := "a19c95081642e8bb81d2ff11dbcbf0c0f454eba6147f8c51f5e3a0f2cdc61ecc", func := "reliquary/reliquarylaw07.PackBack", spec := "packBack", inPlace := ["internal/bytealg.abigen_runtime_cmpstring", "internal/abi.NoEscape"], unfollowed := true, recurses := true, apart := false, narrowed := true }
def PackBackUptoSaid : Prop := packBackUptoRow.holds Try.pinned (OpenSpec.upto packBackSpec)

/-- 'reliquarylaw07.PackFound', WHERE WHAT IT READS IS OF BULK AT MOST 1048576: true; the input reads as it did. -/
def packFoundUptoRow : OpenClaim := { program := "ytabgpleiobpeoaa", sum := "a19c95081642e8bb81d2ff11dbcbf0c0f454eba6147f8c51f5e3a0f2cdc61ecc", func := "reliquary/reliquarylaw07.PackFound", spec := "packFound", inPlace := ["internal/bytealg.abigen_runtime_cmpstring", "internal/abi.NoEscape"], unfollowed := true, recurses := true, apart := false, narrowed := true }
def PackFoundUptoSaid : Prop := packFoundUptoRow.holds Try.pinned (OpenSpec.upto packFoundSpec)

/-- 'reliquarylaw07.PackTells', WHERE WHAT IT READS IS OF BULK AT MOST 1048576: true; the input reads as it did. -/
def packTellsUptoRow : OpenClaim := { program := "ytabgpleiobpeoaa", sum := "a19c95081642e8bb81d2ff11dbcbf0c0f454eba6147f8c51f5e3a0f2cdc61ecc", func := "reliquary/reliquarylaw07.PackTells", spec := "packTells", inPlace := ["internal/bytealg.abigen_runtime_cmpstring", "internal/abi.NoEscape"], unfollowed := true, recurses := true, apart := false, narrowed := true }
def PackTellsUptoSaid : Prop := packTellsUptoRow.holds Try.pinned (OpenSpec.upto packTellsSpec)

/-- 'reliquarylaw07.PackSize', WHERE WHAT IT READS IS OF BULK AT MOST 1048576: true; the input reads as it did. -/
def packSizeUptoRow : OpenClaim := { program := "ytabgpleiobpeoaa", sum := "a19c95081642e8bb81d2ff11dbcbf0c0f454eba6147f8c51f5e3a0f2cdc61ecc", func := "reliquary/reliquarylaw07.PackSize", spec := "packSize", inPlace := ["internal/bytealg.abigen_runtime_cmpstring", "internal/abi.NoEscape"], unfollowed := true, recurses := true, apart := false, narrowed := true }
def PackSizeUptoSaid : Prop := packSizeUptoRow.holds Try.pinned (OpenSpec.upto packSizeSpec)

end Rows
end Go.Proofs.Ytabgpleiobpeoaa
