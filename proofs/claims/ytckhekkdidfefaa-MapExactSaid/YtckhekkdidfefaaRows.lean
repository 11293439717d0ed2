/-
  No cell of these rows narrows 'for every input' (looked for: loops, veiled, ifaces, maps, wideKeys, modest, calm, conditions, laid).
  DERIVED. THE GIVEN ROWS OF THIS SEAT. 5 by the template 'for every input the law returns true; each argument reads behind the call as it read before'; 0 by the template 'total and deterministic' (their statements: YtckhekkdidfefaaTotals.lean).
  GIVEN WITH THE SEED: the statements are not yours to turn. If you find one false, say at which input.
  Laid BY PROGRAM, IN A SANDBOX (cutbox-rows.mjs): the forced cells as the released guide's own fill.sh prints them over the translation 43b2257f47f5704a… (all of the seat's roots in one cut). By AI agents, Wed Nov 11 2026. No macro, syntax, notation, axiom, sorry.
-/
import Derived.Test.YtckhekkdidfefaaChecked
import GoSem.Claim
import GoSem.ClaimJoined
import GoSem.ClaimMapViews
import Derived.JoinedTies
import Derived.KernelRfl
namespace Go.Proofs.Ytckhekkdidfefaa
/- THE CELL 'sum', in the pinned program and in every row, IS THE sha256 OF THE DUMP (.gsa) THAT YtckhekkdidfefaaProg.lean LOADS. Nothing in Lean hashes anything: it is a label: what it is worth is what the hold of that sum in a sandbox is worth. -/
noncomputable def Try.pinned : Pinned := { name := "ytckhekkdidfefaa", sum := "43b2257f47f5704aa3581b4e393ee1fe4c60fb63c0baa538a0627454bfcf9cb5", checked := Try.checked }
namespace Rows
def none {H : Type} : Left H := { results := [], args := [] }

/-- 'reliquarylaw08.SetJoins': WHATEVER THE INPUT: true; the input reads as it did. -/
def setJoinsSpec : ChangeSpec := { name := "setJoins", fn := fun _ => fun
  | [d1, d2] => { results := [.lit (.bool true)], args := [d1, d2] }
  | _ => none }
def setJoinsRow : OpenClaim := { program := "ytckhekkdidfefaa", sum := "43b2257f47f5704aa3581b4e393ee1fe4c60fb63c0baa538a0627454bfcf9cb5", func := "reliquary/reliquarylaw08.SetJoins", spec := "setJoins", inPlace := ["slices.overlaps[int]", "slices.overlaps[struct{}]", "slices.overlaps[string]"], unfollowed := true, recurses := true, apart := false }
def SetJoinsSaid : Prop := setJoinsRow.holds Try.pinned (OpenSpec.ofChange setJoinsSpec)

/-- ITS FALSE NEIGHBOUR: 'it returns false'. Refute it at one input. -/
def setJoinsWrong : ChangeSpec := { name := "setJoins", fn := fun _ => fun
  | [d1, d2] => { results := [.lit (.bool false)], args := [d1, d2] }
  | _ => none }
def SetJoinsWrongFalsely : Prop := setJoinsRow.holds Try.pinned (OpenSpec.ofChange setJoinsWrong)

/-- 'reliquarylaw08.MapExact': WHATEVER THE INPUT: true; the input reads as it did. -/
def mapExactSpec : ChangeSpec := { name := "mapExact", fn := fun _ => fun
  | [d] => { results := [.lit (.bool true)], args := [d] }
  | _ => none }
def mapExactRow : OpenClaim := { program := "ytckhekkdidfefaa", sum := "43b2257f47f5704aa3581b4e393ee1fe4c60fb63c0baa538a0627454bfcf9cb5", func := "reliquary/reliquarylaw08.MapExact", spec := "mapExact", inPlace := ["slices.overlaps[int]", "slices.overlaps[struct{}]", "slices.overlaps[string]"], unfollowed := true, recurses := true, apart := false }
def MapExactSaid : Prop := mapExactRow.holds Try.pinned (OpenSpec.ofChange mapExactSpec)

/-- ITS FALSE NEIGHBOUR: 'it returns false'. Refute it at one input. -/
def mapExactWrong : ChangeSpec := { name := "mapExact", fn := fun _ => fun
  | [d] => { results := [.lit (.bool false)], args := [d] }
  | _ => none }
def MapExactWrongFalsely : Prop := mapExactRow.holds Try.pinned (OpenSpec.ofChange mapExactWrong)

/-- 'reliquarylaw08.MapRises': WHATEVER THE INPUT: true; the input reads as it did. -/
def mapRisesSpec : ChangeSpec := { name := "mapRises", fn := fun _ => fun
  | [d] => { results := [.lit (.bool true)], args := [d] }
  | _ => none }
def mapRisesRow : OpenClaim := { program := "ytckhekkdidfefaa", sum := "43b2257f47f5704aa3581b4e393ee1fe4c60fb63c0baa538a0627454bfcf9cb5", func := "reliquary/reliquarylaw08.MapRises", spec := "mapRises", inPlace := ["slices.overlaps[int]", "slices.overlaps[struct{}]", "slices.overlaps[string]"], unfollowed := true, recurses := true, apart := false }
def MapRisesSaid : Prop := mapRisesRow.holds Try.pinned (OpenSpec.ofChange mapRisesSpec)

/-- ITS FALSE NEIGHBOUR: 'it returns false'. Refute it at one input. -/
def mapRisesWrong : ChangeSpec := { name := "mapRises", fn := fun _ => fun
  | [d] => { results := [.lit (.bool false)], args := [d] }
  | _ => none }
def MapRisesWrongFalsely : Prop := mapRisesRow.holds Try.pinned (OpenSpec.ofChange mapRisesWrong)

/-- 'reliquarylaw08.SetGoes': WHATEVER THE INPUT: true; the input reads as it did. -/
def setGoesSpec : ChangeSpec := { name := "setGoes", fn := fun _ => fun
  | [d1, d2] => { results := [.lit (.bool true)], args := [d1, d2] }
  | _ => none }
def setGoesRow : OpenClaim := { program := "ytckhekkdidfefaa", sum := "43b2257f47f5704aa3581b4e393ee1fe4c60fb63c0baa538a0627454bfcf9cb5", func := "reliquary/reliquarylaw08.SetGoes", spec := "setGoes", inPlace := ["slices.overlaps[int]", "slices.overlaps[struct{}]", "slices.overlaps[string]"], unfollowed := true, recurses := true, apart := false }
def SetGoesSaid : Prop := setGoesRow.holds Try.pinned (OpenSpec.ofChange setGoesSpec)

/-- ITS FALSE NEIGHBOUR: 'it returns false'. Refute it at one input. -/
def setGoesWrong : ChangeSpec := { name := "setGoes", fn := fun _ => fun
  | [d1, d2] => { results := [.lit (.bool false)], args := [d1, d2] }
  | _ => none }
def SetGoesWrongFalsely : Prop := setGoesRow.holds Try.pinned (OpenSpec.ofChange setGoesWrong)

/-- 'reliquarylaw08.SetExact': WHATEVER THE INPUT: true; the input reads as it did. -/
def setExactSpec : ChangeSpec := { name := "setExact", fn := fun _ => fun
  | [d1, d2] => { results := [.lit (.bool true)], args := [d1, d2] }
  | _ => none }
def setExactRow : OpenClaim := { program := "ytckhekkdidfefaa", sum := "43b2257f47f5704aa3581b4e393ee1fe4c60fb63c0baa538a0627454bfcf9cb5", func := "reliquary/reliquarylaw08.SetExact", spec := "setExact", inPlace := ["slices.overlaps[int]", "slices.overlaps[struct{}]", "slices.overlaps[string]"], unfollowed := true, recurses := true, apart := false }
def SetExactSaid : Prop := setExactRow.holds Try.pinned (OpenSpec.ofChange setExactSpec)

/-- ITS FALSE NEIGHBOUR: 'it returns false'. Refute it at one input. -/
def setExactWrong : ChangeSpec := { name := "setExact", fn := fun _ => fun
  | [d1, d2] => { results := [.lit (.bool false)], args := [d1, d2] }
  | _ => none }
def SetExactWrongFalsely : Prop := setExactRow.holds Try.pinned (OpenSpec.ofChange setExactWrong)

/- THE SECOND FORM. 'bulk': how many values and letters a reading holds, each counted each time it is reached (what is shared counts as often as it is met; a slice's spare places count too). A statement '..UptoSaid' is the law's where the arguments, and the package variables that the reading takes, are together of bulk at most 1048576: NARROWER than '..Said'. Prove '..Said' where nothing that the law and all that it calls make is longer than what came in: it says more and counts as full. Else prove '..UptoSaid'. A law counts once. -/
mutual
def uptoBulk {H : Type} : DataW H → Nat
  | .lit (.string bytes) => bytes.length + 1
  | .lit _ => 1
  | .nil => 1
  | .ptr d => uptoBulk d + 1
  | .slice elems spare => uptoBulkAll elems + uptoBulkAll spare + 1
  | .agg parts => uptoBulkAll parts + 1
  | .iface _ d => uptoBulk d + 1
  | .map entries => uptoBulkEntries entries + 1
  | .held _ => 1
def uptoBulkAll {H : Type} : List (DataW H) → Nat
  | [] => 0
  | d :: r => uptoBulk d + uptoBulkAll r
def uptoBulkEntries {H : Type} : List (Lit × DataW H) → Nat
  | [] => 0
  | x :: r => uptoBulkEntry x + uptoBulkEntries r
def uptoBulkEntry {H : Type} : Lit × DataW H → Nat
  | (.string bytes, d) => bytes.length + uptoBulk d + 1
  | (_, d) => uptoBulk d + 1
 end
def uptoSmall : (H : Type) → List (DataW H) → Bool := fun _ ds => decide (uptoBulkAll ds ≤ 1048576)
def OpenSpec.upto (s : _root_.Go.ChangeSpec) : _root_.Go.OpenSpec := { _root_.Go.OpenSpec.ofChange s with cond := some uptoSmall }

/-- 'reliquarylaw08.SetJoins', WHERE WHAT IT READS IS OF BULK AT MOST 1048576: true; the input reads as it did. -/
def setJoinsUptoRow : OpenClaim := { program := "ytckhekkdidfefaa", sum := "43b2257f47f5704aa3581b4e393ee1fe4c60fb63c0baa538a0627454bfcf9cb5", func := "reliquary/reliquarylaw08.SetJoins", spec := "setJoins", inPlace := ["slices.overlaps[int]", "slices.overlaps[struct{}]", "slices.overlaps[string]"], unfollowed := true, recurses := true, apart := false, narrowed := true }
def SetJoinsUptoSaid : Prop := setJoinsUptoRow.holds Try.pinned (OpenSpec.upto setJoinsSpec)

/-- 'reliquarylaw08.MapExact', WHERE WHAT IT READS IS OF BULK AT MOST 1048576: true; the input reads as it did. -/
def mapExactUptoRow : OpenClaim := { program := "ytckhekkdidfefaa", sum := "43b2257f47f5704aa3581b4e393ee1fe4c60fb63c0baa538a0627454bfcf9cb5", func := "reliquary/reliquarylaw08.MapExact", spec := "mapExact", inPlace := ["slices.overlaps[int]", "slices.overlaps[struct{}]", "slices.overlaps[string]"], unfollowed := true, recurses := true, apart := false, narrowed := true }
def MapExactUptoSaid : Prop := mapExactUptoRow.holds Try.pinned (OpenSpec.upto mapExactSpec)

/-- 'reliquarylaw08.MapRises', WHERE WHAT IT READS IS OF BULK AT MOST 1048576: true; the input reads as it did. -/
def mapRisesUptoRow : OpenClaim := { program := "ytckhekkdidfefaa", sum := "43b2257f47f5704aa3581b4e393ee1fe4c60fb63c0baa538a0627454bfcf9cb5", func := "reliquary/reliquarylaw08.MapRises", spec := "mapRises", inPlace := ["slices.overlaps[int]", "slices.overlaps[struct{}]", "slices.overlaps[string]"], unfollowed := true, recurses := true, apart := false, narrowed := true }
def MapRisesUptoSaid : Prop := mapRisesUptoRow.holds Try.pinned (OpenSpec.upto mapRisesSpec)

/-- 'reliquarylaw08.SetGoes', WHERE WHAT IT READS IS OF BULK AT MOST 1048576: true; the input reads as it did. -/
def setGoesUptoRow : OpenClaim := { program := "ytckhekkdidfefaa", sum := "43b2257f47f5704aa3581b4e393ee1fe4c60fb63c0baa538a0627454bfcf9cb5", func := "reliquary/reliquarylaw08.SetGoes", spec := "setGoes", inPlace := ["slices.overlaps[int]", "slices.overlaps[struct{}]", "slices.overlaps[string]"], unfollowed := true, recurses := true, apart := false, narrowed := true }
def SetGoesUptoSaid : Prop := setGoesUptoRow.holds Try.pinned (OpenSpec.upto setGoesSpec)

/-- 'reliquarylaw08.SetExact', WHERE WHAT IT READS IS OF BULK AT MOST 1048576: true; the input reads as it did. -/
def setExactUptoRow : OpenClaim := { program := "ytckhekkdidfefaa", sum := "43b2257f47f5704aa3581b4e393ee1fe4c60fb63c0baa538a0627454bfcf9cb5", func := "reliquary/reliquarylaw08.SetExact", spec := "setExact", inPlace := ["slices.overlaps[int]", "slices.overlaps[struct{}]", "slices.overlaps[string]"], unfollowed := true, recurses := true, apart := false, narrowed := true }
def SetExactUptoSaid : Prop := setExactUptoRow.holds Try.pinned (OpenSpec.upto setExactSpec)

end Rows
end Go.Proofs.Ytckhekkdidfefaa
