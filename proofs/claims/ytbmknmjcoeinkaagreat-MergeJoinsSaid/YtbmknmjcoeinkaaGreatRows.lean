/-
  No cell of these rows narrows 'for every input' (looked for: loops, veiled, ifaces, maps, wideKeys, modest, calm, conditions, laid).
  DERIVED. THE GIVEN ROWS OF THIS SEAT. 6 by the template 'for every input the law returns true; each argument reads behind the call as it read before'; 0 by the template 'total and deterministic' (their statements: YtbmknmjcoeinkaaGreatTotals.lean).
  GIVEN WITH THE SEED: the statements are not yours to turn. If you find one false, say at which input.
  Laid BY PROGRAM, IN A SANDBOX (cutbox-rows.mjs): the forced cells as the released guide's own fill.sh prints them over the translation 8017907410662f89… (all of the seat's roots in one cut). By AI agents, Wed Nov 11 2026. No macro, syntax, notation, axiom, sorry.
-/
import Derived.Test.YtbmknmjcoeinkaaGreatChecked
import GoSem.Claim
import GoSem.ClaimJoined
import GoSem.ClaimMapViews
import Derived.JoinedTies
import Derived.KernelRfl
namespace Go.Proofs.YtbmknmjcoeinkaaGreat
/- THE CELL 'sum', in the pinned program and in every row, IS THE sha256 OF THE DUMP (.gsa) THAT YtbmknmjcoeinkaaGreatProg.lean LOADS. Nothing in Lean hashes anything: it is a label: what it is worth is what the hold of that sum in a sandbox is worth. -/
noncomputable def Tryz.pinned : Pinned := { name := "ytbmknmjcoeinkaagreat", sum := "8017907410662f89e5ecbe631d3a68a2cff76f2da7f014c6ecc1ee7a1767a861", checked := Tryz.checked }
namespace Rows
def none {H : Type} : Left H := { results := [], args := [] }

/-- 'reliquarylaw13.MergeJoins': WHATEVER THE INPUT: true; the input reads as it did. -/
def mergeJoinsSpec : ChangeSpec := { name := "mergeJoins", fn := fun _ => fun
  | [d1, d2] => { results := [.lit (.bool true)], args := [d1, d2] }
  | _ => none }
def mergeJoinsRow : OpenClaim := { program := "ytbmknmjcoeinkaagreat", sum := "8017907410662f89e5ecbe631d3a68a2cff76f2da7f014c6ecc1ee7a1767a861", func := "reliquary/reliquarylaw13.MergeJoins", spec := "mergeJoins", inPlace := ["internal/bytealg.IndexByteString", "internal/bytealg.IndexString", "internal/bytealg.abigen_runtime_cmpstring"], unfollowed := true, recurses := true, named := ["internal/bytealg.MaxLen"], plainKeys := false, apart := false }
def MergeJoinsSaid : Prop := mergeJoinsRow.holds Tryz.pinned (OpenSpec.ofChange mergeJoinsSpec)

/-- ITS FALSE NEIGHBOUR: 'it returns false'. Refute it at one input. -/
def mergeJoinsWrong : ChangeSpec := { name := "mergeJoins", fn := fun _ => fun
  | [d1, d2] => { results := [.lit (.bool false)], args := [d1, d2] }
  | _ => none }
def MergeJoinsWrongFalsely : Prop := mergeJoinsRow.holds Tryz.pinned (OpenSpec.ofChange mergeJoinsWrong)

/-- 'reliquarylaw13.MergeAcks': WHATEVER THE INPUT: true; the input reads as it did. -/
def mergeAcksSpec : ChangeSpec := { name := "mergeAcks", fn := fun _ => fun
  | [d1, d2] => { results := [.lit (.bool true)], args := [d1, d2] }
  | _ => none }
def mergeAcksRow : OpenClaim := { program := "ytbmknmjcoeinkaagreat", sum := "8017907410662f89e5ecbe631d3a68a2cff76f2da7f014c6ecc1ee7a1767a861", func := "reliquary/reliquarylaw13.MergeAcks", spec := "mergeAcks", inPlace := ["internal/bytealg.IndexByteString", "internal/bytealg.IndexString", "internal/bytealg.abigen_runtime_cmpstring"], unfollowed := true, recurses := true, named := ["internal/bytealg.MaxLen"], plainKeys := false, apart := false }
def MergeAcksSaid : Prop := mergeAcksRow.holds Tryz.pinned (OpenSpec.ofChange mergeAcksSpec)

/-- ITS FALSE NEIGHBOUR: 'it returns false'. Refute it at one input. -/
def mergeAcksWrong : ChangeSpec := { name := "mergeAcks", fn := fun _ => fun
  | [d1, d2] => { results := [.lit (.bool false)], args := [d1, d2] }
  | _ => none }
def MergeAcksWrongFalsely : Prop := mergeAcksRow.holds Tryz.pinned (OpenSpec.ofChange mergeAcksWrong)

/-- 'reliquarylaw13.MergeLeast': WHATEVER THE INPUT: true; the input reads as it did. -/
def mergeLeastSpec : ChangeSpec := { name := "mergeLeast", fn := fun _ => fun
  | [d1, d2, d3] => { results := [.lit (.bool true)], args := [d1, d2, d3] }
  | _ => none }
def mergeLeastRow : OpenClaim := { program := "ytbmknmjcoeinkaagreat", sum := "8017907410662f89e5ecbe631d3a68a2cff76f2da7f014c6ecc1ee7a1767a861", func := "reliquary/reliquarylaw13.MergeLeast", spec := "mergeLeast", inPlace := ["internal/bytealg.IndexByteString", "internal/bytealg.IndexString", "internal/bytealg.abigen_runtime_cmpstring"], unfollowed := true, recurses := true, named := ["internal/bytealg.MaxLen"], plainKeys := false, apart := false }
def MergeLeastSaid : Prop := mergeLeastRow.holds Tryz.pinned (OpenSpec.ofChange mergeLeastSpec)

/-- ITS FALSE NEIGHBOUR: 'it returns false'. Refute it at one input. -/
def mergeLeastWrong : ChangeSpec := { name := "mergeLeast", fn := fun _ => fun
  | [d1, d2, d3] => { results := [.lit (.bool false)], args := [d1, d2, d3] }
  | _ => none }
def MergeLeastWrongFalsely : Prop := mergeLeastRow.holds Tryz.pinned (OpenSpec.ofChange mergeLeastWrong)

/-- 'reliquarylaw13.MergeTurns': WHATEVER THE INPUT: true; the input reads as it did. -/
def mergeTurnsSpec : ChangeSpec := { name := "mergeTurns", fn := fun _ => fun
  | [d1, d2, d3] => { results := [.lit (.bool true)], args := [d1, d2, d3] }
  | _ => none }
def mergeTurnsRow : OpenClaim := { program := "ytbmknmjcoeinkaagreat", sum := "8017907410662f89e5ecbe631d3a68a2cff76f2da7f014c6ecc1ee7a1767a861", func := "reliquary/reliquarylaw13.MergeTurns", spec := "mergeTurns", inPlace := ["internal/bytealg.IndexByteString", "internal/bytealg.IndexString", "internal/bytealg.abigen_runtime_cmpstring"], unfollowed := true, recurses := true, named := ["internal/bytealg.MaxLen"], plainKeys := false, apart := false }
def MergeTurnsSaid : Prop := mergeTurnsRow.holds Tryz.pinned (OpenSpec.ofChange mergeTurnsSpec)

/-- ITS FALSE NEIGHBOUR: 'it returns false'. Refute it at one input. -/
def mergeTurnsWrong : ChangeSpec := { name := "mergeTurns", fn := fun _ => fun
  | [d1, d2, d3] => { results := [.lit (.bool false)], args := [d1, d2, d3] }
  | _ => none }
def MergeTurnsWrongFalsely : Prop := mergeTurnsRow.holds Tryz.pinned (OpenSpec.ofChange mergeTurnsWrong)

/-- 'reliquarylaw13.MergeAgain': WHATEVER THE INPUT: true; the input reads as it did. -/
def mergeAgainSpec : ChangeSpec := { name := "mergeAgain", fn := fun _ => fun
  | [d1, d2, d3] => { results := [.lit (.bool true)], args := [d1, d2, d3] }
  | _ => none }
def mergeAgainRow : OpenClaim := { program := "ytbmknmjcoeinkaagreat", sum := "8017907410662f89e5ecbe631d3a68a2cff76f2da7f014c6ecc1ee7a1767a861", func := "reliquary/reliquarylaw13.MergeAgain", spec := "mergeAgain", inPlace := ["internal/bytealg.IndexByteString", "internal/bytealg.IndexString", "internal/bytealg.abigen_runtime_cmpstring"], unfollowed := true, recurses := true, named := ["internal/bytealg.MaxLen"], plainKeys := false, apart := false }
def MergeAgainSaid : Prop := mergeAgainRow.holds Tryz.pinned (OpenSpec.ofChange mergeAgainSpec)

/-- ITS FALSE NEIGHBOUR: 'it returns false'. Refute it at one input. -/
def mergeAgainWrong : ChangeSpec := { name := "mergeAgain", fn := fun _ => fun
  | [d1, d2, d3] => { results := [.lit (.bool false)], args := [d1, d2, d3] }
  | _ => none }
def MergeAgainWrongFalsely : Prop := mergeAgainRow.holds Tryz.pinned (OpenSpec.ofChange mergeAgainWrong)

/-- 'reliquarylaw13.MergeSure': WHATEVER THE INPUT: true; the input reads as it did. -/
def mergeSureSpec : ChangeSpec := { name := "mergeSure", fn := fun _ => fun
  | [d1, d2, d3] => { results := [.lit (.bool true)], args := [d1, d2, d3] }
  | _ => none }
def mergeSureRow : OpenClaim := { program := "ytbmknmjcoeinkaagreat", sum := "8017907410662f89e5ecbe631d3a68a2cff76f2da7f014c6ecc1ee7a1767a861", func := "reliquary/reliquarylaw13.MergeSure", spec := "mergeSure", inPlace := ["internal/bytealg.IndexByteString", "internal/bytealg.IndexString", "internal/bytealg.abigen_runtime_cmpstring"], unfollowed := true, recurses := true, named := ["internal/bytealg.MaxLen"], plainKeys := false, apart := false }
def MergeSureSaid : Prop := mergeSureRow.holds Tryz.pinned (OpenSpec.ofChange mergeSureSpec)

/-- ITS FALSE NEIGHBOUR: 'it returns false'. Refute it at one input. -/
def mergeSureWrong : ChangeSpec := { name := "mergeSure", fn := fun _ => fun
  | [d1, d2, d3] => { results := [.lit (.bool false)], args := [d1, d2, d3] }
  | _ => none }
def MergeSureWrongFalsely : Prop := mergeSureRow.holds Tryz.pinned (OpenSpec.ofChange mergeSureWrong)

/- THE SECOND FORM. 'bulk': how many values and letters a reading holds, each counted each time it is reached (what is shared counts as often as it is met; a slice's spare places count too). A statement '..UptoSaid' is the law's where the arguments, and the package variables that the reading takes, are together of bulk at most 1048576: NARROWER than '..Said'. Prove '..Said' where nothing that the law and all that it calls make is longer than what came in: it says more and counts as full. Else prove '..UptoSaid'. A law counts once. -/
mutual
def uptoBulk {H : Type} : DataW H → Nat
  | .lit (.string bytes) => bytes.length + 1
  | .lit _ => 1
  | .nil => 1
  | .ptr d => uptoBulk d + 1
  | .slice elems spare => uptoBulkAll elems + uptoBulkAll spare + 1
  | .agg parts => uptoBulkAll parts + 1
  | .iface _ d => uptoBulk d + 1
  | .map entries => uptoBulkEntries entries + 1
  | .held _ => 1
def uptoBulkAll {H : Type} : List (DataW H) → Nat
  | [] => 0
  | d :: r => uptoBulk d + uptoBulkAll r
def uptoBulkEntries {H : Type} : List (Lit × DataW H) → Nat
  | [] => 0
  | x :: r => uptoBulkEntry x + uptoBulkEntries r
def uptoBulkEntry {H : Type} : Lit × DataW H → Nat
  | (.string bytes, d) => bytes.length + uptoBulk d + 1
  | (_, d) => uptoBulk d + 1
 end
def uptoSmall : (H : Type) → List (DataW H) → Bool := fun _ ds => decide (uptoBulkAll ds ≤ 1048576)
def OpenSpec.upto (s : _root_.Go.ChangeSpec) : _root_.Go.OpenSpec := { _root_.Go.OpenSpec.ofChange s with cond := some uptoSmall }

/-- 'reliquarylaw13.MergeJoins', WHERE WHAT IT READS IS OF BULK AT MOST 1048576: true; the input reads as it did. -/
def mergeJoinsUptoRow : OpenClaim := { program := "ytbmknmjcoeinkaagreat", sum := "8017907410662f89e5ecbe631d3a68a2cff76f2da7f014c6ecc1ee7a1767a861", func := "reliquary/reliquarylaw13.MergeJoins", spec := "mergeJoins", inPlace := ["internal/bytealg.IndexByteString", "internal/bytealg.IndexString", "internal/bytealg.abigen_runtime_cmpstring"], unfollowed := true, recurses := true, named := ["internal/bytealg.MaxLen"], plainKeys := false, apart := false, narrowed := true }
def MergeJoinsUptoSaid : Prop := mergeJoinsUptoRow.holds Tryz.pinned (OpenSpec.upto mergeJoinsSpec)

/-- 'reliquarylaw13.MergeAcks', WHERE WHAT IT READS IS OF BULK AT MOST 1048576: true; the input reads as it did. -/
def mergeAcksUptoRow : OpenClaim := { program := "ytbmknmjcoeinkaagreat", sum := "8017907410662f89e5ecbe631d3a68a2cff76f2da7f014c6ecc1ee7a1767a861", func := "reliquary/reliquarylaw13.MergeAcks", spec := "mergeAcks", inPlace := ["internal/bytealg.IndexByteString", "internal/bytealg.IndexString", "internal/bytealg.abigen_runtime_cmpstring"], unfollowed := true, recurses := true, named := ["internal/bytealg.MaxLen"], plainKeys := false, apart := false, narrowed := true }
def MergeAcksUptoSaid : Prop := mergeAcksUptoRow.holds Tryz.pinned (OpenSpec.upto mergeAcksSpec)

/-- 'reliquarylaw13.MergeLeast', WHERE WHAT IT READS IS OF BULK AT MOST 1048576: true; the input reads as it did. -/
def mergeLeastUptoRow : OpenClaim := { program := "ytbmknmjcoeinkaagreat", sum := "8017907410662f89e5ecbe631d3a68a2cff76f2da7f014c6ecc1ee7a1767a861", func := "reliquary/reliquarylaw13.MergeLeast", spec := "mergeLeast", inPlace := ["internal/bytealg.IndexByteString", "internal/bytealg.IndexString", "internal/bytealg.abigen_runtime_cmpstring"], unfollowed := true, recurses := true, named := ["internal/bytealg.MaxLen"], plainKeys := false, apart := false, narrowed := true }
def MergeLeastUptoSaid : Prop := mergeLeastUptoRow.holds Tryz.pinned (OpenSpec.upto mergeLeastSpec)

/-- 'reliquarylaw13.MergeTurns', WHERE WHAT IT READS IS OF BULK AT MOST 1048576: true; the input reads as it did. -/
def mergeTurnsUptoRow : OpenClaim := { program := "ytbmknmjcoeinkaagreat", sum := "8017907410662f89e5ecbe631d3a68a2cff76f2da7f014c6ecc1ee7a1767a861", func := "reliquary/reliquarylaw13.MergeTurns", spec := "mergeTurns", inPlace := ["internal/bytealg.IndexByteString", "internal/bytealg.IndexString", "internal/bytealg.abigen_runtime_cmpstring"], unfollowed := true, recurses := true, named := ["internal/bytealg.MaxLen"], plainKeys := false, apart := false, narrowed := true }
def MergeTurnsUptoSaid : Prop := mergeTurnsUptoRow.holds Tryz.pinned (OpenSpec.upto mergeTurnsSpec)

/-- 'reliquarylaw13.MergeAgain', WHERE WHAT IT READS IS OF BULK AT MOST 1048576: true; the input reads as it did. -/
def mergeAgainUptoRow : OpenClaim := { program := "ytbmknmjcoeinkaagreat", sum := "8017907410662f89e5ecbe631d3a68a2cff76f2da7f014c6ecc1ee7a1767a861", func := "reliquary/reliquarylaw13.MergeAgain", spec := "mergeAgain", inPlace := ["internal/bytealg.IndexByteString", "internal/bytealg.IndexString", "internal/bytealg.abigen_runtime_cmpstring"], unfollowed := true, recurses := true, named := ["internal/bytealg.MaxLen"], plainKeys := false, apart := false, narrowed := true }
def MergeAgainUptoSaid : Prop := mergeAgainUptoRow.holds Tryz.pinned (OpenSpec.upto mergeAgainSpec)

/-- 'reliquarylaw13.MergeSure', WHERE WHAT IT READS IS OF BULK AT MOST 1048576: true; the input reads as it did. -/
def mergeSureUptoRow : OpenClaim := { program := "ytbmknmjcoeinkaagreat", sum := "8017907410662f89e5ecbe631d3a68a2cff76f2da7f014c6ecc1ee7a1767a861", func := "reliquary/reliquarylaw13.MergeSure", spec := "mergeSure", inPlace := ["internal/bytealg.IndexByteString", "internal/bytealg.IndexString", "internal/bytealg.abigen_runtime_cmpstring"], unfollowed := true, recurses := true, named := ["internal/bytealg.MaxLen"], plainKeys := false, apart := false, narrowed := true }
def MergeSureUptoSaid : Prop := mergeSureUptoRow.holds Tryz.pinned (OpenSpec.upto mergeSureSpec)

end Rows
end Go.Proofs.YtbmknmjcoeinkaaGreat
