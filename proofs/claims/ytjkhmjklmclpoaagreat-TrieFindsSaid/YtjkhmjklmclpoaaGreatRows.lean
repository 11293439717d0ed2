/-
  No cell of these rows narrows 'for every input' (looked for: loops, veiled, ifaces, maps, wideKeys, modest, calm, conditions, laid).
  DERIVED. THE GIVEN ROWS OF THIS SEAT. 6 by the template 'for every input the law returns true; each argument reads behind the call as it read before'; 0 by the template 'total and deterministic' (their statements: YtjkhmjklmclpoaaGreatTotals.lean).
  GIVEN WITH THE SEED: the statements are not yours to turn. If you find one false, say at which input.
  Laid BY PROGRAM, IN A SANDBOX (cutbox-rows.mjs): the forced cells as the released guide's own fill.sh prints them over the translation ba0a03b2a8181ed6… (all of the seat's roots in one cut). By AI agents, Wed Nov 11 2026. No macro, syntax, notation, axiom, sorry.
-/
import Derived.Test.YtjkhmjklmclpoaaGreatChecked
import GoSem.Claim
import GoSem.ClaimJoined
import GoSem.ClaimMapViews
import Derived.JoinedTies
import Derived.KernelRfl
namespace Go.Proofs.YtjkhmjklmclpoaaGreat
/- THE CELL 'sum', in the pinned program and in every row, IS THE sha256 OF THE DUMP (.gsa) THAT YtjkhmjklmclpoaaGreatProg.lean LOADS. Nothing in Lean hashes anything: it is a label: what it is worth is what the hold of that sum in a sandbox is worth. -/
noncomputable def Tryz.pinned : Pinned := { name := "ytjkhmjklmclpoaagreat", sum := "ba0a03b2a8181ed60d4269eb7c1df27c1c411b4da1f1e4e3b4f8c823f352282f", checked := Tryz.checked }
namespace Rows
def none {H : Type} : Left H := { results := [], args := [] }

/-- 'reliquarylaw10.TrieLooks': WHATEVER THE INPUT: true; the input reads as it did. -/
def trieLooksSpec : ChangeSpec := { name := "trieLooks", fn := fun _ => fun
  | [d1, d2] => { results := [.lit (.bool true)], args := [d1, d2] }
  | _ => none }
def trieLooksRow : OpenClaim := { program := "ytjkhmjklmclpoaagreat", sum := "ba0a03b2a8181ed60d4269eb7c1df27c1c411b4da1f1e4e3b4f8c823f352282f", func := "reliquary/reliquarylaw10.TrieLooks", spec := "trieLooks", inPlace := ["slices.overlaps[string]", "slices.overlaps[struct{}]", "internal/bytealg.IndexByteString", "internal/bytealg.IndexString", "internal/abi.NoEscape", "internal/bytealg.MakeNoZero"], unfollowed := true, recurses := true, named := ["internal/bytealg.MaxLen"], apart := false }
def TrieLooksSaid : Prop := trieLooksRow.holds Tryz.pinned (OpenSpec.ofChange trieLooksSpec)

/-- ITS FALSE NEIGHBOUR: 'it returns false'. Refute it at one input. -/
def trieLooksWrong : ChangeSpec := { name := "trieLooks", fn := fun _ => fun
  | [d1, d2] => { results := [.lit (.bool false)], args := [d1, d2] }
  | _ => none }
def TrieLooksWrongFalsely : Prop := trieLooksRow.holds Tryz.pinned (OpenSpec.ofChange trieLooksWrong)

/-- 'reliquarylaw10.TrieDraws': WHATEVER THE INPUT: true; the input reads as it did. -/
def trieDrawsSpec : ChangeSpec := { name := "trieDraws", fn := fun _ => fun
  | [d1, d2] => { results := [.lit (.bool true)], args := [d1, d2] }
  | _ => none }
def trieDrawsRow : OpenClaim := { program := "ytjkhmjklmclpoaagreat", sum := "ba0a03b2a8181ed60d4269eb7c1df27c1c411b4da1f1e4e3b4f8c823f352282f", func := "reliquary/reliquarylaw10.TrieDraws", spec := "trieDraws", inPlace := ["slices.overlaps[string]", "slices.overlaps[struct{}]", "internal/bytealg.IndexByteString", "internal/bytealg.IndexString", "internal/abi.NoEscape", "internal/bytealg.MakeNoZero"], unfollowed := true, recurses := true, named := ["internal/bytealg.MaxLen"], apart := false }
def TrieDrawsSaid : Prop := trieDrawsRow.holds Tryz.pinned (OpenSpec.ofChange trieDrawsSpec)

/-- ITS FALSE NEIGHBOUR: 'it returns false'. Refute it at one input. -/
def trieDrawsWrong : ChangeSpec := { name := "trieDraws", fn := fun _ => fun
  | [d1, d2] => { results := [.lit (.bool false)], args := [d1, d2] }
  | _ => none }
def TrieDrawsWrongFalsely : Prop := trieDrawsRow.holds Tryz.pinned (OpenSpec.ofChange trieDrawsWrong)

/-- 'reliquarylaw10.TrieSums': WHATEVER THE INPUT: true; the input reads as it did. -/
def trieSumsSpec : ChangeSpec := { name := "trieSums", fn := fun _ => fun
  | [d1, d2, d3] => { results := [.lit (.bool true)], args := [d1, d2, d3] }
  | _ => none }
def trieSumsRow : OpenClaim := { program := "ytjkhmjklmclpoaagreat", sum := "ba0a03b2a8181ed60d4269eb7c1df27c1c411b4da1f1e4e3b4f8c823f352282f", func := "reliquary/reliquarylaw10.TrieSums", spec := "trieSums", inPlace := ["slices.overlaps[string]", "slices.overlaps[struct{}]", "internal/bytealg.IndexByteString", "internal/bytealg.IndexString", "internal/abi.NoEscape", "internal/bytealg.MakeNoZero"], unfollowed := true, recurses := true, named := ["internal/bytealg.MaxLen"], apart := false }
def TrieSumsSaid : Prop := trieSumsRow.holds Tryz.pinned (OpenSpec.ofChange trieSumsSpec)

/-- ITS FALSE NEIGHBOUR: 'it returns false'. Refute it at one input. -/
def trieSumsWrong : ChangeSpec := { name := "trieSums", fn := fun _ => fun
  | [d1, d2, d3] => { results := [.lit (.bool false)], args := [d1, d2, d3] }
  | _ => none }
def TrieSumsWrongFalsely : Prop := trieSumsRow.holds Tryz.pinned (OpenSpec.ofChange trieSumsWrong)

/-- 'reliquarylaw10.TrieSpoilt': WHATEVER THE INPUT: true; the input reads as it did. -/
def trieSpoiltSpec : ChangeSpec := { name := "trieSpoilt", fn := fun _ => fun
  | [d1, d2, d3] => { results := [.lit (.bool true)], args := [d1, d2, d3] }
  | _ => none }
def trieSpoiltRow : OpenClaim := { program := "ytjkhmjklmclpoaagreat", sum := "ba0a03b2a8181ed60d4269eb7c1df27c1c411b4da1f1e4e3b4f8c823f352282f", func := "reliquary/reliquarylaw10.TrieSpoilt", spec := "trieSpoilt", inPlace := ["slices.overlaps[string]", "slices.overlaps[struct{}]", "internal/bytealg.IndexByteString", "internal/bytealg.IndexString", "internal/abi.NoEscape", "internal/bytealg.MakeNoZero"], unfollowed := true, recurses := true, named := ["internal/bytealg.MaxLen"], apart := false }
def TrieSpoiltSaid : Prop := trieSpoiltRow.holds Tryz.pinned (OpenSpec.ofChange trieSpoiltSpec)

/-- ITS FALSE NEIGHBOUR: 'it returns false'. Refute it at one input. -/
def trieSpoiltWrong : ChangeSpec := { name := "trieSpoilt", fn := fun _ => fun
  | [d1, d2, d3] => { results := [.lit (.bool false)], args := [d1, d2, d3] }
  | _ => none }
def TrieSpoiltWrongFalsely : Prop := trieSpoiltRow.holds Tryz.pinned (OpenSpec.ofChange trieSpoiltWrong)

/-- 'reliquarylaw10.TrieFinds': WHATEVER THE INPUT: true; the input reads as it did. -/
def trieFindsSpec : ChangeSpec := { name := "trieFinds", fn := fun _ => fun
  | [d1, d2] => { results := [.lit (.bool true)], args := [d1, d2] }
  | _ => none }
def trieFindsRow : OpenClaim := { program := "ytjkhmjklmclpoaagreat", sum := "ba0a03b2a8181ed60d4269eb7c1df27c1c411b4da1f1e4e3b4f8c823f352282f", func := "reliquary/reliquarylaw10.TrieFinds", spec := "trieFinds", inPlace := ["slices.overlaps[string]", "slices.overlaps[struct{}]", "internal/bytealg.IndexByteString", "internal/bytealg.IndexString", "internal/abi.NoEscape", "internal/bytealg.MakeNoZero"], unfollowed := true, recurses := true, named := ["internal/bytealg.MaxLen"], apart := false }
def TrieFindsSaid : Prop := trieFindsRow.holds Tryz.pinned (OpenSpec.ofChange trieFindsSpec)

/-- ITS FALSE NEIGHBOUR: 'it returns false'. Refute it at one input. -/
def trieFindsWrong : ChangeSpec := { name := "trieFinds", fn := fun _ => fun
  | [d1, d2] => { results := [.lit (.bool false)], args := [d1, d2] }
  | _ => none }
def TrieFindsWrongFalsely : Prop := trieFindsRow.holds Tryz.pinned (OpenSpec.ofChange trieFindsWrong)

/-- 'reliquarylaw10.TrieSelf': WHATEVER THE INPUT: true; the input reads as it did. -/
def trieSelfSpec : ChangeSpec := { name := "trieSelf", fn := fun _ => fun
  | [d1, d2, d3] => { results := [.lit (.bool true)], args := [d1, d2, d3] }
  | _ => none }
def trieSelfRow : OpenClaim := { program := "ytjkhmjklmclpoaagreat", sum := "ba0a03b2a8181ed60d4269eb7c1df27c1c411b4da1f1e4e3b4f8c823f352282f", func := "reliquary/reliquarylaw10.TrieSelf", spec := "trieSelf", inPlace := ["slices.overlaps[string]", "slices.overlaps[struct{}]", "internal/bytealg.IndexByteString", "internal/bytealg.IndexString", "internal/abi.NoEscape", "internal/bytealg.MakeNoZero"], unfollowed := true, recurses := true, named := ["internal/bytealg.MaxLen"], apart := false }
def TrieSelfSaid : Prop := trieSelfRow.holds Tryz.pinned (OpenSpec.ofChange trieSelfSpec)

/-- ITS FALSE NEIGHBOUR: 'it returns false'. Refute it at one input. -/
def trieSelfWrong : ChangeSpec := { name := "trieSelf", fn := fun _ => fun
  | [d1, d2, d3] => { results := [.lit (.bool false)], args := [d1, d2, d3] }
  | _ => none }
def TrieSelfWrongFalsely : Prop := trieSelfRow.holds Tryz.pinned (OpenSpec.ofChange trieSelfWrong)

/- THE SECOND FORM. 'bulk': how many values and letters a reading holds, each counted each time it is reached (what is shared counts as often as it is met; a slice's spare places count too). A statement '..UptoSaid' is the law's where the arguments, and the package variables that the reading takes, are together of bulk at most 1048576: NARROWER than '..Said'. Prove '..Said' where nothing that the law and all that it calls make is longer than what came in: it says more and counts as full. Else prove '..UptoSaid'. A law counts once. -/
mutual
def uptoBulk {H : Type} : DataW H → Nat
  | .lit (.string bytes) => bytes.length + 1
  | .lit _ => 1
  | .nil => 1
  | .ptr d => uptoBulk d + 1
  | .slice elems spare => uptoBulkAll elems + uptoBulkAll spare + 1
  | .agg parts => uptoBulkAll parts + 1
  | .iface _ d => uptoBulk d + 1
  | .map entries => uptoBulkEntries entries + 1
  | .held _ => 1
def uptoBulkAll {H : Type} : List (DataW H) → Nat
  | [] => 0
  | d :: r => uptoBulk d + uptoBulkAll r
def uptoBulkEntries {H : Type} : List (Lit × DataW H) → Nat
  | [] => 0
  | x :: r => uptoBulkEntry x + uptoBulkEntries r
def uptoBulkEntry {H : Type} : Lit × DataW H → Nat
  | (.string bytes, d) => bytes.length + uptoBulk d + 1
  | (_, d) => uptoBulk d + 1
 end
def uptoSmall : (H : Type) → List (DataW H) → Bool := fun _ ds => decide (uptoBulkAll ds ≤ 1048576)
def OpenSpec.upto (s : _root_.Go.ChangeSpec) : _root_.Go.OpenSpec := { _root_.Go.OpenSpec.ofChange s with cond := some uptoSmall }

/-- 'reliquarylaw10.TrieLooks', WHERE WHAT IT READS IS OF BULK AT MOST 1048576: true; the input reads as it did. -/
def trieLooksUptoRow : OpenClaim := { program := "ytjkhmjklmclpoaagreat", sum := "ba0a03b2a8181ed60d4269eb7c1df27c1c411b4da1f1e4e3b4f8c823f352282f", func := "reliquary/reliquarylaw10.TrieLooks", spec := "trieLooks", inPlace := ["slices.overlaps[string]", "slices.overlaps[struct{}]", "internal/bytealg.IndexByteString", "internal/bytealg.IndexString", "internal/abi.NoEscape", "internal/bytealg.MakeNoZero"], unfollowed := true, recurses := true, named := ["internal/bytealg.MaxLen"], apart := false, narrowed := true }
def TrieLooksUptoSaid : Prop := trieLooksUptoRow.holds Tryz.pinned (OpenSpec.upto trieLooksSpec)

/-- 'reliquarylaw10.TrieDraws', WHERE WHAT IT READS IS OF BULK AT MOST 1048576: true; the input reads as it did. -/
def trieDrawsUptoRow : OpenClaim := { program := "ytjkhmjklmclpoaagreat", sum := "ba0a03b2a8181ed60d4269eb7c1df27c1c411b4da1f1e4e3b4f8c823f352282f", func := "reliquary/reliquarylaw10.TrieDraws", spec := "trieDraws", inPlace := ["slices.overlaps[string]", "slices.overlaps[struct{}]", "internal/bytealg.IndexByteString", "internal/bytealg.IndexString", "internal/abi.NoEscape", "internal/bytealg.MakeNoZero"], unfollowed := true, recurses := true, named := ["internal/bytealg.MaxLen"], apart := false, narrowed := true }
def TrieDrawsUptoSaid : Prop := trieDrawsUptoRow.holds Tryz.pinned (OpenSpec.upto trieDrawsSpec)

/-- 'reliquarylaw10.TrieSums', WHERE WHAT IT READS IS OF BULK AT MOST 1048576: true; the input reads as it did. -/
def trieSumsUptoRow : OpenClaim := { program := "ytjkhmjklmclpoaagreat", sum := "ba0a03b2a8181ed60d4269eb7c1df27c1c411b4da1f1e4e3b4f8c823f352282f", func := "reliquary/reliquarylaw10.TrieSums", spec := "trieSums", inPlace := ["slices.overlaps[string]", "slices.overlaps[struct{}]", "internal/bytealg.IndexByteString", "internal/bytealg.IndexString", "internal/abi.NoEscape", "internal/bytealg.MakeNoZero"], unfollowed := true, recurses := true, named := ["internal/bytealg.MaxLen"], apart := false, narrowed := true }
def TrieSumsUptoSaid : Prop := trieSumsUptoRow.holds Tryz.pinned (OpenSpec.upto trieSumsSpec)

/-- 'reliquarylaw10.TrieSpoilt', WHERE WHAT IT READS IS OF BULK AT MOST 1048576: true; the input reads as it did. -/
def trieSpoiltUptoRow : OpenClaim := { program := "ytjkhmjklmclpoaagreat", sum := "ba0a03b2a8181ed60d4269eb7c1df27c1c411b4da1f1e4e3b4f8c823f352282f", func := "reliquary/reliquarylaw10.TrieSpoilt", spec := "trieSpoilt", inPlace := ["slices.overlaps[string]", "slices.overlaps[struct{}]", "internal/bytealg.IndexByteString", "internal/bytealg.IndexString", "internal/abi.NoEscape", "internal/bytealg.MakeNoZero"], unfollowed := true, recurses := true, named := ["internal/bytealg.MaxLen"], apart := false, narrowed := true }
def TrieSpoiltUptoSaid : Prop := trieSpoiltUptoRow.holds Tryz.pinned (OpenSpec.upto trieSpoiltSpec)

/-- 'reliquarylaw10.TrieFinds', WHERE WHAT IT READS IS OF BULK AT MOST 1048576: true; the input reads as it did. -/
def trieFindsUptoRow : OpenClaim := { program := "ytjkhmjklmclpoaagreat", sum := "ba0a03b2a8181ed60d4269eb7c1df27c1c411b4da1f1e4e3b4f8c823f352282f", func := "reliquary/reliquarylaw10.TrieFinds", spec := "trieFinds", inPlace := ["slices.overlaps[string]", "slices.overlaps[struct{}]", "internal/bytealg.IndexByteString", "internal/bytealg.IndexString", "internal/abi.NoEscape", "internal/bytealg.MakeNoZero"], unfollowed := true, recurses := true, named := ["internal/bytealg.MaxLen"], apart := false, narrowed := true }
def TrieFindsUptoSaid : Prop := trieFindsUptoRow.holds Tryz.pinned (OpenSpec.upto trieFindsSpec)

/-- 'reliquarylaw10.TrieSelf', WHERE WHAT IT READS IS OF BULK AT MOST 1048576: true; the input reads as it did. -/
def trieSelfUptoRow : OpenClaim := { program := "ytjkhmjklmclpoaagreat", sum := "ba0a03b2a8181ed60d4269eb7c1df27c1c411b4da1f1e4e3b4f8c823f352282f", func := "reliquary/reliquarylaw10.TrieSelf", spec := "trieSelf", inPlace := ["slices.overlaps[string]", "slices.overlaps[struct{}]", "internal/bytealg.IndexByteString", "internal/bytealg.IndexString", "internal/abi.NoEscape", "internal/bytealg.MakeNoZero"], unfollowed := true, recurses := true, named := ["internal/bytealg.MaxLen"], apart := false, narrowed := true }
def TrieSelfUptoSaid : Prop := trieSelfUptoRow.holds Tryz.pinned (OpenSpec.upto trieSelfSpec)

end Rows
end Go.Proofs.YtjkhmjklmclpoaaGreat
