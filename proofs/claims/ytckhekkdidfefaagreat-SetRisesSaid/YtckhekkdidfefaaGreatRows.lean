/-
  No cell of these rows narrows 'for every input' (looked for: loops, veiled, ifaces, maps, wideKeys, modest, calm, conditions, laid).
  DERIVED. THE GIVEN ROWS OF THIS SEAT. 2 by the template 'for every input the law returns true; each argument reads behind the call as it read before'; 0 by the template 'total and deterministic' (their statements: YtckhekkdidfefaaGreatTotals.lean).
  GIVEN WITH THE SEED: the statements are not yours to turn. If you find one false, say at which input.
  Laid BY PROGRAM, IN A SANDBOX (cutbox-rows.mjs): the forced cells as the released guide's own fill.sh prints them over the translation 5663a7bb3921e2da… (all of the seat's roots in one cut). By AI agents, Wed Nov 11 2026. No macro, syntax, notation, axiom, sorry.
-/
import Derived.Test.YtckhekkdidfefaaGreatChecked
import GoSem.Claim
import GoSem.ClaimJoined
import GoSem.ClaimMapViews
import Derived.JoinedTies
import Derived.KernelRfl
namespace Go.Proofs.YtckhekkdidfefaaGreat
/- THE CELL 'sum', in the pinned program and in every row, IS THE sha256 OF THE DUMP (.gsa) THAT YtckhekkdidfefaaGreatProg.lean LOADS. Nothing in Lean hashes anything: it is a label: what it is worth is what the hold of that sum in a sandbox is worth. -/
noncomputable def Tryz.pinned : Pinned := { name := "ytckhekkdidfefaagreat", sum := "5663a7bb3921e2da4138f2f52ce138c22568f1a9005695d9eec0aa3182009ec5", checked := Tryz.checked }
namespace Rows
def none {H : Type} : Left H := { results := [], args := [] }

/-- 'reliquarylaw08.SetRises': WHATEVER THE INPUT: true; the input reads as it did. -/
def setRisesSpec : ChangeSpec := { name := "setRises", fn := fun _ => fun
  | [d] => { results := [.lit (.bool true)], args := [d] }
  | _ => none }
def setRisesRow : OpenClaim := { program := "ytckhekkdidfefaagreat", sum := "5663a7bb3921e2da4138f2f52ce138c22568f1a9005695d9eec0aa3182009ec5", func := "reliquary/reliquarylaw08.SetRises", spec := "setRises", inPlace := ["slices.overlaps[int]", "slices.overlaps[struct{}]", "slices.overlaps[string]"], unfollowed := true, recurses := true, apart := false }
def SetRisesSaid : Prop := setRisesRow.holds Tryz.pinned (OpenSpec.ofChange setRisesSpec)

/-- ITS FALSE NEIGHBOUR: 'it returns false'. Refute it at one input. -/
def setRisesWrong : ChangeSpec := { name := "setRises", fn := fun _ => fun
  | [d] => { results := [.lit (.bool false)], args := [d] }
  | _ => none }
def SetRisesWrongFalsely : Prop := setRisesRow.holds Tryz.pinned (OpenSpec.ofChange setRisesWrong)

/-- 'reliquarylaw08.SetAlgebra': WHATEVER THE INPUT: true; the input reads as it did. -/
def setAlgebraSpec : ChangeSpec := { name := "setAlgebra", fn := fun _ => fun
  | [d1, d2] => { results := [.lit (.bool true)], args := [d1, d2] }
  | _ => none }
def setAlgebraRow : OpenClaim := { program := "ytckhekkdidfefaagreat", sum := "5663a7bb3921e2da4138f2f52ce138c22568f1a9005695d9eec0aa3182009ec5", func := "reliquary/reliquarylaw08.SetAlgebra", spec := "setAlgebra", inPlace := ["slices.overlaps[int]", "slices.overlaps[struct{}]", "slices.overlaps[string]"], unfollowed := true, recurses := true, apart := false }
def SetAlgebraSaid : Prop := setAlgebraRow.holds Tryz.pinned (OpenSpec.ofChange setAlgebraSpec)

/-- ITS FALSE NEIGHBOUR: 'it returns false'. Refute it at one input. -/
def setAlgebraWrong : ChangeSpec := { name := "setAlgebra", fn := fun _ => fun
  | [d1, d2] => { results := [.lit (.bool false)], args := [d1, d2] }
  | _ => none }
def SetAlgebraWrongFalsely : Prop := setAlgebraRow.holds Tryz.pinned (OpenSpec.ofChange setAlgebraWrong)

/- THE SECOND FORM. 'bulk': how many values and letters a reading holds, each counted each time it is reached (what is shared counts as often as it is met; a slice's spare places count too). A statement '..UptoSaid' is the law's where the arguments, and the package variables that the reading takes, are together of bulk at most 1048576: NARROWER than '..Said'. Prove '..Said' where nothing that the law and all that it calls make is longer than what came in: it says more and counts as full. Else prove '..UptoSaid'. A law counts once. -/
mutual
def uptoBulk {H : Type} : DataW H → Nat
  | .lit (.string bytes) => bytes.length + 1
  | .lit _ => 1
  | .nil => 1
  | .ptr d => uptoBulk d + 1
  | .slice elems spare => uptoBulkAll elems + uptoBulkAll spare + 1
  | .agg parts => uptoBulkAll parts + 1
  | .iface _ d => uptoBulk d + 1
  | .map entries => uptoBulkEntries entries + 1
  | .held _ => 1
def uptoBulkAll {H : Type} : List (DataW H) → Nat
  | [] => 0
  | d :: r => uptoBulk d + uptoBulkAll r
def uptoBulkEntries {H : Type} : List (Lit × DataW H) → Nat
  | [] => 0
  | x :: r => uptoBulkEntry x + uptoBulkEntries r
def uptoBulkEntry {H : Type} : Lit × DataW H → Nat
  | (.string bytes, d) => bytes.length + uptoBulk d + 1
  | (_, d) => uptoBulk d + 1
 end
def uptoSmall : (H : Type) → List (DataW H) → Bool := fun _ ds => decide (uptoBulkAll ds ≤ 1048576)
def OpenSpec.upto (s : _root_.Go.ChangeSpec) : _root_.Go.OpenSpec := { _root_.Go.OpenSpec.ofChange s with cond := some uptoSmall }

/-- 'reliquarylaw08.SetRises', WHERE WHAT IT READS IS OF BULK AT MOST 1048576: true; the input reads as it did. -/
def setRisesUptoRow : OpenClaim := { program := "ytckhekkdidfefaagreat", sum := "5663a7bb3921e2da4138f2f52ce138c22568f1a9005695d9eec0aa3182009ec5", func := "reliquary/reliquarylaw08.SetRises", spec := "setRises", inPlace := ["slices.overlaps[int]", "slices.overlaps[struct{}]", "slices.overlaps[string]"], unfollowed := true, recurses := true, apart := false, narrowed := true }
def SetRisesUptoSaid : Prop := setRisesUptoRow.holds Tryz.pinned (OpenSpec.upto setRisesSpec)

/-- 'reliquarylaw08.SetAlgebra', WHERE WHAT IT READS IS OF BULK AT MOST 1048576: true; the input reads as it did. -/
def setAlgebraUptoRow : OpenClaim := { program := "ytckhekkdidfefaagreat", sum := "5663a7bb3921e2da4138f2f52ce138c22568f1a9005695d9eec0aa3182009ec5", func := "reliquary/reliquarylaw08.SetAlgebra", spec := "setAlgebra", inPlace := ["slices.overlaps[int]", "slices.overlaps[struct{}]", "slices.overlaps[string]"], unfollowed := true, recurses := true, apart := false, narrowed := true }
def SetAlgebraUptoSaid : Prop := setAlgebraUptoRow.holds Tryz.pinned (OpenSpec.upto setAlgebraSpec)

end Rows
end Go.Proofs.YtckhekkdidfefaaGreat
