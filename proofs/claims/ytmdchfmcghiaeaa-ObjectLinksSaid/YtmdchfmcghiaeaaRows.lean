/-
  No cell of these rows narrows 'for every input' (looked for: loops, veiled, ifaces, maps, wideKeys, modest, calm, conditions, laid).
  DERIVED. THE GIVEN ROWS OF THIS SEAT. 10 by the template 'for every input the law returns true; each argument reads behind the call as it read before'; 0 by the template 'total and deterministic' (their statements: YtmdchfmcghiaeaaTotals.lean).
  GIVEN WITH THE SEED: the statements are not yours to turn. If you find one false, say at which input.
  Laid BY PROGRAM, IN A SANDBOX (cutbox-rows.mjs): the forced cells as the released guide's own fill.sh prints them over the translation 13878c6766785717… (all of the seat's roots in one cut). By AI agents, Wed Nov 11 2026. No macro, syntax, notation, axiom, sorry.
-/
import Derived.Test.YtmdchfmcghiaeaaChecked
import GoSem.Claim
import GoSem.ClaimJoined
import GoSem.ClaimMapViews
import Derived.JoinedTies
import Derived.KernelRfl
namespace Go.Proofs.Ytmdchfmcghiaeaa
/- THE CELL 'sum', in the pinned program and in every row, IS THE sha256 OF THE DUMP (.gsa) THAT YtmdchfmcghiaeaaProg.lean LOADS. Nothing in Lean hashes anything: it is a label: what it is worth is what the hold of that sum in a sandbox is worth. -/
noncomputable def Try.pinned : Pinned := { name := "ytmdchfmcghiaeaa", sum := "13878c6766785717b4b92959a5765d775495c19ac58894543470d00c45b67841", checked := Try.checked }
namespace Rows
def none {H : Type} : Left H := { results := [], args := [] }

/-- 'reliquarylaw02.ShaSums': WHATEVER THE INPUT: true; the input reads as it did. -/
def shaSumsSpec : ChangeSpec := { name := "shaSums", fn := fun _ => fun
  | [d] => { results := [.lit (.bool true)], args := [d] }
  | _ => none }
def shaSumsRow : OpenClaim := { program := "ytmdchfmcghiaeaa", sum := "13878c6766785717b4b92959a5765d775495c19ac58894543470d00c45b67841", func := "reliquary/reliquarylaw02.ShaSums", spec := "shaSums", apart := false }
def ShaSumsSaid : Prop := shaSumsRow.holds Try.pinned (OpenSpec.ofChange shaSumsSpec)

/-- ITS FALSE NEIGHBOUR: 'it returns false'. Refute it at one input. -/
def shaSumsWrong : ChangeSpec := { name := "shaSums", fn := fun _ => fun
  | [d] => { results := [.lit (.bool false)], args := [d] }
  | _ => none }
def ShaSumsWrongFalsely : Prop := shaSumsRow.holds Try.pinned (OpenSpec.ofChange shaSumsWrong)

/-- 'reliquarylaw02.ShaPieces': WHATEVER THE INPUT: true; the input reads as it did. -/
def shaPiecesSpec : ChangeSpec := { name := "shaPieces", fn := fun _ => fun
  | [d] => { results := [.lit (.bool true)], args := [d] }
  | _ => none }
def shaPiecesRow : OpenClaim := { program := "ytmdchfmcghiaeaa", sum := "13878c6766785717b4b92959a5765d775495c19ac58894543470d00c45b67841", func := "reliquary/reliquarylaw02.ShaPieces", spec := "shaPieces", apart := false }
def ShaPiecesSaid : Prop := shaPiecesRow.holds Try.pinned (OpenSpec.ofChange shaPiecesSpec)

/-- ITS FALSE NEIGHBOUR: 'it returns false'. Refute it at one input. -/
def shaPiecesWrong : ChangeSpec := { name := "shaPieces", fn := fun _ => fun
  | [d] => { results := [.lit (.bool false)], args := [d] }
  | _ => none }
def ShaPiecesWrongFalsely : Prop := shaPiecesRow.holds Try.pinned (OpenSpec.ofChange shaPiecesWrong)

/-- 'reliquarylaw02.ShaLong': WHATEVER THE INPUT: true; the input reads as it did. -/
def shaLongSpec : ChangeSpec := { name := "shaLong", fn := fun _ => fun
  | [d] => { results := [.lit (.bool true)], args := [d] }
  | _ => none }
def shaLongRow : OpenClaim := { program := "ytmdchfmcghiaeaa", sum := "13878c6766785717b4b92959a5765d775495c19ac58894543470d00c45b67841", func := "reliquary/reliquarylaw02.ShaLong", spec := "shaLong", apart := false }
def ShaLongSaid : Prop := shaLongRow.holds Try.pinned (OpenSpec.ofChange shaLongSpec)

/-- ITS FALSE NEIGHBOUR: 'it returns false'. Refute it at one input. -/
def shaLongWrong : ChangeSpec := { name := "shaLong", fn := fun _ => fun
  | [d] => { results := [.lit (.bool false)], args := [d] }
  | _ => none }
def ShaLongWrongFalsely : Prop := shaLongRow.holds Try.pinned (OpenSpec.ofChange shaLongWrong)

/-- 'reliquarylaw06.ObjectReads': WHATEVER THE INPUT: true; the input reads as it did. -/
def objectReadsSpec : ChangeSpec := { name := "objectReads", fn := fun _ => fun
  | [d] => { results := [.lit (.bool true)], args := [d] }
  | _ => none }
def objectReadsRow : OpenClaim := { program := "ytmdchfmcghiaeaa", sum := "13878c6766785717b4b92959a5765d775495c19ac58894543470d00c45b67841", func := "reliquary/reliquarylaw06.ObjectReads", spec := "objectReads", inPlace := ["internal/bytealg.IndexByteString", "internal/bytealg.IndexString", "internal/abi.NoEscape", "internal/bytealg.MakeNoZero"], unfollowed := true, recurses := true, named := ["internal/bytealg.MaxLen"], apart := false }
def ObjectReadsSaid : Prop := objectReadsRow.holds Try.pinned (OpenSpec.ofChange objectReadsSpec)

/-- ITS FALSE NEIGHBOUR: 'it returns false'. Refute it at one input. -/
def objectReadsWrong : ChangeSpec := { name := "objectReads", fn := fun _ => fun
  | [d] => { results := [.lit (.bool false)], args := [d] }
  | _ => none }
def ObjectReadsWrongFalsely : Prop := objectReadsRow.holds Try.pinned (OpenSpec.ofChange objectReadsWrong)

/-- 'reliquarylaw06.ObjectHeights': WHATEVER THE INPUT: true; the input reads as it did. -/
def objectHeightsSpec : ChangeSpec := { name := "objectHeights", fn := fun _ => fun
  | [d] => { results := [.lit (.bool true)], args := [d] }
  | _ => none }
def objectHeightsRow : OpenClaim := { program := "ytmdchfmcghiaeaa", sum := "13878c6766785717b4b92959a5765d775495c19ac58894543470d00c45b67841", func := "reliquary/reliquarylaw06.ObjectHeights", spec := "objectHeights", inPlace := ["internal/bytealg.IndexByteString", "internal/bytealg.IndexString", "internal/abi.NoEscape", "internal/bytealg.MakeNoZero"], unfollowed := true, recurses := true, named := ["internal/bytealg.MaxLen"], apart := false }
def ObjectHeightsSaid : Prop := objectHeightsRow.holds Try.pinned (OpenSpec.ofChange objectHeightsSpec)

/-- ITS FALSE NEIGHBOUR: 'it returns false'. Refute it at one input. -/
def objectHeightsWrong : ChangeSpec := { name := "objectHeights", fn := fun _ => fun
  | [d] => { results := [.lit (.bool false)], args := [d] }
  | _ => none }
def ObjectHeightsWrongFalsely : Prop := objectHeightsRow.holds Try.pinned (OpenSpec.ofChange objectHeightsWrong)

/-- 'reliquarylaw06.ObjectBack': WHATEVER THE INPUT: true; the input reads as it did. -/
def objectBackSpec : ChangeSpec := { name := "objectBack", fn := fun _ => fun
  | [d1, d2, d3] => { results := [.lit (.bool true)], args := [d1, d2, d3] }
  | _ => none }
def objectBackRow : OpenClaim := { program := "ytmdchfmcghiaeaa", sum := "13878c6766785717b4b92959a5765d775495c19ac58894543470d00c45b67841", func := "reliquary/reliquarylaw06.ObjectBack", spec := "objectBack", inPlace := ["internal/bytealg.IndexByteString", "internal/bytealg.IndexString", "internal/abi.NoEscape", "internal/bytealg.MakeNoZero"], unfollowed := true, recurses := true, named := ["internal/bytealg.MaxLen"], apart := false }
def ObjectBackSaid : Prop := objectBackRow.holds Try.pinned (OpenSpec.ofChange objectBackSpec)

/-- ITS FALSE NEIGHBOUR: 'it returns false'. Refute it at one input. -/
def objectBackWrong : ChangeSpec := { name := "objectBack", fn := fun _ => fun
  | [d1, d2, d3] => { results := [.lit (.bool false)], args := [d1, d2, d3] }
  | _ => none }
def ObjectBackWrongFalsely : Prop := objectBackRow.holds Try.pinned (OpenSpec.ofChange objectBackWrong)

/-- 'reliquarylaw06.ObjectCuts': WHATEVER THE INPUT: true; the input reads as it did. -/
def objectCutsSpec : ChangeSpec := { name := "objectCuts", fn := fun _ => fun
  | [d1, d2, d3] => { results := [.lit (.bool true)], args := [d1, d2, d3] }
  | _ => none }
def objectCutsRow : OpenClaim := { program := "ytmdchfmcghiaeaa", sum := "13878c6766785717b4b92959a5765d775495c19ac58894543470d00c45b67841", func := "reliquary/reliquarylaw06.ObjectCuts", spec := "objectCuts", inPlace := ["internal/bytealg.IndexByteString", "internal/bytealg.IndexString", "internal/abi.NoEscape", "internal/bytealg.MakeNoZero"], unfollowed := true, recurses := true, named := ["internal/bytealg.MaxLen"], apart := false }
def ObjectCutsSaid : Prop := objectCutsRow.holds Try.pinned (OpenSpec.ofChange objectCutsSpec)

/-- ITS FALSE NEIGHBOUR: 'it returns false'. Refute it at one input. -/
def objectCutsWrong : ChangeSpec := { name := "objectCuts", fn := fun _ => fun
  | [d1, d2, d3] => { results := [.lit (.bool false)], args := [d1, d2, d3] }
  | _ => none }
def ObjectCutsWrongFalsely : Prop := objectCutsRow.holds Try.pinned (OpenSpec.ofChange objectCutsWrong)

/-- 'reliquarylaw06.ObjectRises': WHATEVER THE INPUT: true; the input reads as it did. -/
def objectRisesSpec : ChangeSpec := { name := "objectRises", fn := fun _ => fun
  | [d] => { results := [.lit (.bool true)], args := [d] }
  | _ => none }
def objectRisesRow : OpenClaim := { program := "ytmdchfmcghiaeaa", sum := "13878c6766785717b4b92959a5765d775495c19ac58894543470d00c45b67841", func := "reliquary/reliquarylaw06.ObjectRises", spec := "objectRises", inPlace := ["internal/bytealg.IndexByteString", "internal/bytealg.IndexString", "internal/abi.NoEscape", "internal/bytealg.MakeNoZero"], unfollowed := true, recurses := true, named := ["internal/bytealg.MaxLen"], apart := false }
def ObjectRisesSaid : Prop := objectRisesRow.holds Try.pinned (OpenSpec.ofChange objectRisesSpec)

/-- ITS FALSE NEIGHBOUR: 'it returns false'. Refute it at one input. -/
def objectRisesWrong : ChangeSpec := { name := "objectRises", fn := fun _ => fun
  | [d] => { results := [.lit (.bool false)], args := [d] }
  | _ => none }
def ObjectRisesWrongFalsely : Prop := objectRisesRow.holds Try.pinned (OpenSpec.ofChange objectRisesWrong)

/-- 'reliquarylaw06.ObjectWrites': WHATEVER THE INPUT: true; the input reads as it did. -/
def objectWritesSpec : ChangeSpec := { name := "objectWrites", fn := fun _ => fun
  | [d] => { results := [.lit (.bool true)], args := [d] }
  | _ => none }
def objectWritesRow : OpenClaim := { program := "ytmdchfmcghiaeaa", sum := "13878c6766785717b4b92959a5765d775495c19ac58894543470d00c45b67841", func := "reliquary/reliquarylaw06.ObjectWrites", spec := "objectWrites", inPlace := ["internal/bytealg.IndexByteString", "internal/bytealg.IndexString", "internal/abi.NoEscape", "internal/bytealg.MakeNoZero", "internal/bytealg.abigen_runtime_cmpstring"], unfollowed := true, recurses := true, named := ["internal/bytealg.MaxLen"], apart := false }
def ObjectWritesSaid : Prop := objectWritesRow.holds Try.pinned (OpenSpec.ofChange objectWritesSpec)

/-- ITS FALSE NEIGHBOUR: 'it returns false'. Refute it at one input. -/
def objectWritesWrong : ChangeSpec := { name := "objectWrites", fn := fun _ => fun
  | [d] => { results := [.lit (.bool false)], args := [d] }
  | _ => none }
def ObjectWritesWrongFalsely : Prop := objectWritesRow.holds Try.pinned (OpenSpec.ofChange objectWritesWrong)

/-- 'reliquarylaw06.ObjectLinks': WHATEVER THE INPUT: true; the input reads as it did. -/
def objectLinksSpec : ChangeSpec := { name := "objectLinks", fn := fun _ => fun
  | [d] => { results := [.lit (.bool true)], args := [d] }
  | _ => none }
def objectLinksRow : OpenClaim := { program := "ytmdchfmcghiaeaa", sum := "13878c6766785717b4b92959a5765d775495c19ac58894543470d00c45b67841", func := "reliquary/reliquarylaw06.ObjectLinks", spec := "objectLinks", inPlace := ["internal/bytealg.IndexByteString", "internal/bytealg.IndexString", "internal/abi.NoEscape", "internal/bytealg.MakeNoZero", "internal/bytealg.abigen_runtime_cmpstring"], unfollowed := true, recurses := true, named := ["internal/bytealg.MaxLen"], apart := false }
def ObjectLinksSaid : Prop := objectLinksRow.holds Try.pinned (OpenSpec.ofChange objectLinksSpec)

/-- ITS FALSE NEIGHBOUR: 'it returns false'. Refute it at one input. -/
def objectLinksWrong : ChangeSpec := { name := "objectLinks", fn := fun _ => fun
  | [d] => { results := [.lit (.bool false)], args := [d] }
  | _ => none }
def ObjectLinksWrongFalsely : Prop := objectLinksRow.holds Try.pinned (OpenSpec.ofChange objectLinksWrong)

/- THE SECOND FORM. 'bulk': how many values and letters a reading holds, each counted each time it is reached (what is shared counts as often as it is met; a slice's spare places count too). A statement '..UptoSaid' is the law's where the arguments, and the package variables that the reading takes, are together of bulk at most 1048576: NARROWER than '..Said'. Prove '..Said' where nothing that the law and all that it calls make is longer than what came in: it says more and counts as full. Else prove '..UptoSaid'. A law counts once. -/
mutual
def uptoBulk {H : Type} : DataW H → Nat
  | .lit (.string bytes) => bytes.length + 1
  | .lit _ => 1
  | .nil => 1
  | .ptr d => uptoBulk d + 1
  | .slice elems spare => uptoBulkAll elems + uptoBulkAll spare + 1
  | .agg parts => uptoBulkAll parts + 1
  | .iface _ d => uptoBulk d + 1
  | .map entries => uptoBulkEntries entries + 1
  | .held _ => 1
def uptoBulkAll {H : Type} : List (DataW H) → Nat
  | [] => 0
  | d :: r => uptoBulk d + uptoBulkAll r
def uptoBulkEntries {H : Type} : List (Lit × DataW H) → Nat
  | [] => 0
  | x :: r => uptoBulkEntry x + uptoBulkEntries r
def uptoBulkEntry {H : Type} : Lit × DataW H → Nat
  | (.string bytes, d) => bytes.length + uptoBulk d + 1
  | (_, d) => uptoBulk d + 1
 end
def uptoSmall : (H : Type) → List (DataW H) → Bool := fun _ ds => decide (uptoBulkAll ds ≤ 1048576)
def OpenSpec.upto (s : _root_.Go.ChangeSpec) : _root_.Go.OpenSpec := { _root_.Go.OpenSpec.ofChange s with cond := some uptoSmall }

/-- 'reliquarylaw02.ShaSums', WHERE WHAT IT READS IS OF BULK AT MOST 1048576: true; the input reads as it did. -/
def shaSumsUptoRow : OpenClaim := { program := "ytmdchfmcghiaeaa", sum := "13878c6766785717b4b92959a5765d775495c19ac58894543470d00c45b67841", func := "reliquary/reliquarylaw02.ShaSums", spec := "shaSums", apart := false, narrowed := true }
def ShaSumsUptoSaid : Prop := shaSumsUptoRow.holds Try.pinned (OpenSpec.upto shaSumsSpec)

/-- 'reliquarylaw02.ShaPieces', WHERE WHAT IT READS IS OF BULK AT MOST 1048576: true; the input reads as it did. -/
def shaPiecesUptoRow : OpenClaim := { program := "ytmdchfmcghiaeaa", sum := "13878c6766785717b4b92959a5765d775495c19ac58894543470d00c45b67841", func := "reliquary/reliquarylaw02.ShaPieces", spec := "shaPieces", apart := false, narrowed := true }
def ShaPiecesUptoSaid : Prop := shaPiecesUptoRow.holds Try.pinned (OpenSpec.upto shaPiecesSpec)

/-- 'reliquarylaw02.ShaLong', WHERE WHAT IT READS IS OF BULK AT MOST 1048576: true; the input reads as it did. -/
def shaLongUptoRow : OpenClaim := { program := "ytmdchfmcghiaeaa", sum := "13878c6766785717b4b92959a5765d775495c19ac58894543470d00c45b67841", func := "reliquary/reliquarylaw02.ShaLong", spec := "shaLong", apart := false, narrowed := true }
def ShaLongUptoSaid : Prop := shaLongUptoRow.holds Try.pinned (OpenSpec.upto shaLongSpec)

/-- 'reliquarylaw06.ObjectReads', WHERE WHAT IT READS IS OF BULK AT MOST 1048576: true; the input reads as it did. -/
def objectReadsUptoRow : OpenClaim := { program := "ytmdchfmcghiaeaa", sum := "13878c6766785717b4b92959a5765d775495c19ac58894543470d00c45b67841", func := "reliquary/reliquarylaw06.ObjectReads", spec := "objectReads", inPlace := ["internal/bytealg.IndexByteString", "internal/bytealg.IndexString", "internal/abi.NoEscape", "internal/bytealg.MakeNoZero"], unfollowed := true, recurses := true, named := ["internal/bytealg.MaxLen"], apart := false, narrowed := true }
def ObjectReadsUptoSaid : Prop := objectReadsUptoRow.holds Try.pinned (OpenSpec.upto objectReadsSpec)

/-- 'reliquarylaw06.ObjectHeights', WHERE WHAT IT READS IS OF BULK AT MOST 1048576: true; the input reads as it did. -/
def objectHeightsUptoRow : OpenClaim := { program := "ytmdchfmcghiaeaa", sum := "13878c6766785717b4b92959a5765d775495c19ac58894543470d00c45b67841", func := "reliquary/reliquarylaw06.ObjectHeights", spec := "objectHeights", inPlace := ["internal/bytealg.IndexByteString", "internal/bytealg.IndexString", "internal/abi.NoEscape", "internal/bytealg.MakeNoZero"], unfollowed := true, recurses := true, named := ["internal/bytealg.MaxLen"], apart := false, narrowed := true }
def ObjectHeightsUptoSaid : Prop := objectHeightsUptoRow.holds Try.pinned (OpenSpec.upto objectHeightsSpec)

/-- 'reliquarylaw06.ObjectBack', WHERE WHAT IT READS IS OF BULK AT MOST 1048576: true; the input reads as it did. -/
def objectBackUptoRow : OpenClaim := { program := "ytmdchfmcghiaeaa", sum := "13878c6766785717b4b92959a5765d775495c19ac58894543470d00c45b67841", func := "reliquary/reliquarylaw06.ObjectBack", spec := "objectBack", inPlace := ["internal/bytealg.IndexByteString", "internal/bytealg.IndexString", "internal/abi.NoEscape", "internal/bytealg.MakeNoZero"], unfollowed := true, recurses := true, named := ["internal/bytealg.MaxLen"], apart := false, narrowed := true }
def ObjectBackUptoSaid : Prop := objectBackUptoRow.holds Try.pinned (OpenSpec.upto objectBackSpec)

/-- 'reliquarylaw06.ObjectCuts', WHERE WHAT IT READS IS OF BULK AT MOST 1048576: true; the input reads as it did. -/
def objectCutsUptoRow : OpenClaim := { program := "ytmdchfmcghiaeaa", sum := "13878c6766785717b4b92959a5765d775495c19ac58894543470d00c45b67841", func := "reliquary/reliquarylaw06.ObjectCuts", spec := "objectCuts", inPlace := ["internal/bytealg.IndexByteString", "internal/bytealg.IndexString", "internal/abi.NoEscape", "internal/bytealg.MakeNoZero"], unfollowed := true, recurses := true, named := ["internal/bytealg.MaxLen"], apart := false, narrowed := true }
def ObjectCutsUptoSaid : Prop := objectCutsUptoRow.holds Try.pinned (OpenSpec.upto objectCutsSpec)

/-- 'reliquarylaw06.ObjectRises', WHERE WHAT IT READS IS OF BULK AT MOST 1048576: true; the input reads as it did. -/
def objectRisesUptoRow : OpenClaim := { program := "ytmdchfmcghiaeaa", sum := "13878c6766785717b4b92959a5765d775495c19ac58894543470d00c45b67841", func := "reliquary/reliquarylaw06.ObjectRises", spec := "objectRises", inPlace := ["internal/bytealg.IndexByteString", "internal/bytealg.IndexString", "internal/abi.NoEscape", "internal/bytealg.MakeNoZero"], unfollowed := true, recurses := true, named := ["internal/bytealg.MaxLen"], apart := false, narrowed := true }
def ObjectRisesUptoSaid : Prop := objectRisesUptoRow.holds Try.pinned (OpenSpec.upto objectRisesSpec)

/-- 'reliquarylaw06.ObjectWrites', WHERE WHAT IT READS IS OF BULK AT MOST 1048576: true; the input reads as it did. -/
def objectWritesUptoRow : OpenClaim := { program := "ytmdchfmcghiaeaa", sum := "13878c6766785717b4b92959a5765d775495c19ac58894543470d00c45b67841", func := "reliquary/reliquarylaw06.ObjectWrites", spec := "objectWrites", inPlace := ["internal/bytealg.IndexByteString", "internal/bytealg.IndexString", "internal/abi.NoEscape", "internal/bytealg.MakeNoZero", "internal/bytealg.abigen_runtime_cmpstring"], unfollowed := true, recurses := true, named := ["internal/bytealg.MaxLen"], apart := false, narrowed := true }
def ObjectWritesUptoSaid : Prop := objectWritesUptoRow.holds Try.pinned (OpenSpec.upto objectWritesSpec)

/-- 'reliquarylaw06.ObjectLinks', WHERE WHAT IT READS IS OF BULK AT MOST 1048576: true; the input reads as it did. -/
def objectLinksUptoRow : OpenClaim := { program := "ytmdchfmcghiaeaa", sum := "13878c6766785717b4b92959a5765d775495c19ac58894543470d00c45b67841", func := "reliquary/reliquarylaw06.ObjectLinks", spec := "objectLinks", inPlace := ["internal/bytealg.IndexByteString", "internal/bytealg.IndexString", "internal/abi.NoEscape", "internal/bytealg.MakeNoZero", "internal/bytealg.abigen_runtime_cmpstring"], unfollowed := true, recurses := true, named := ["internal/bytealg.MaxLen"], apart := false, narrowed := true }
def ObjectLinksUptoSaid : Prop := objectLinksUptoRow.holds Try.pinned (OpenSpec.upto objectLinksSpec)

end Rows
end Go.Proofs.Ytmdchfmcghiaeaa
