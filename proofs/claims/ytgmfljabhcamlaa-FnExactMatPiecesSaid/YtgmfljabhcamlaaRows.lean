/-
  No cell of these rows narrows 'for every input' (looked for: loops, veiled, ifaces, maps, wideKeys, modest, calm, conditions, laid).
  DERIVED. THE GIVEN ROWS OF THIS SEAT. 12 by the template 'for every input the law returns true; each argument reads behind the call as it read before'; 0 by the template 'total and deterministic' (their statements: YtgmfljabhcamlaaTotals.lean).
  GIVEN WITH THE SEED: the statements are not yours to turn. If you find one false, say at which input.
  Laid BY PROGRAM, IN A SANDBOX (cutbox-rows.mjs): the forced cells as the released guide's own fill.sh prints them over the translation 2b2b93dafddeb11c… (all of the seat's roots in one cut). By AI agents, Wed Nov 11 2026. No macro, syntax, notation, axiom, sorry.
-/
import Derived.Test.YtgmfljabhcamlaaChecked
import GoSem.Claim
import GoSem.ClaimJoined
import GoSem.ClaimMapViews
import Derived.JoinedTies
import Derived.KernelRfl
namespace Go.Proofs.Ytgmfljabhcamlaa
/- THE CELL 'sum', in the pinned program and in every row, IS THE sha256 OF THE DUMP (.gsa) THAT YtgmfljabhcamlaaProg.lean LOADS. Nothing in Lean hashes anything: it is a label: what it is worth is what the hold of that sum in a sandbox is worth. -/
noncomputable def Try.pinned : Pinned := { name := "ytgmfljabhcamlaa", sum := "2b2b93dafddeb11c05c12f22dea3c1a78aa308c08c99d62cddac1e9933a7fd0e", checked := Try.checked }
namespace Rows
def none {H : Type} : Left H := { results := [], args := [] }

/-- 'laws.FnExactShardAt': WHATEVER THE INPUT: true; the input reads as it did. -/
def fnExactShardAtSpec : ChangeSpec := { name := "fnExactShardAt", fn := fun _ => fun
  | [d1, d2, d3] => { results := [.lit (.bool true)], args := [d1, d2, d3] }
  | _ => none }
def fnExactShardAtRow : OpenClaim := { program := "ytgmfljabhcamlaa", sum := "2b2b93dafddeb11c05c12f22dea3c1a78aa308c08c99d62cddac1e9933a7fd0e", func := "loop.example/g00849/laws.FnExactShardAt", spec := "fnExactShardAt", inPlace := ["internal/abi.NoEscape", "internal/bytealg.MakeNoZero"], apart := false }
def FnExactShardAtSaid : Prop := fnExactShardAtRow.holds Try.pinned (OpenSpec.ofChange fnExactShardAtSpec)

/-- ITS FALSE NEIGHBOUR: 'it returns false'. Refute it at one input. -/
def fnExactShardAtWrong : ChangeSpec := { name := "fnExactShardAt", fn := fun _ => fun
  | [d1, d2, d3] => { results := [.lit (.bool false)], args := [d1, d2, d3] }
  | _ => none }
def FnExactShardAtWrongFalsely : Prop := fnExactShardAtRow.holds Try.pinned (OpenSpec.ofChange fnExactShardAtWrong)

/-- 'laws.FnExactShardsOf': WHATEVER THE INPUT: true; the input reads as it did. -/
def fnExactShardsOfSpec : ChangeSpec := { name := "fnExactShardsOf", fn := fun _ => fun
  | [d1, d2] => { results := [.lit (.bool true)], args := [d1, d2] }
  | _ => none }
def fnExactShardsOfRow : OpenClaim := { program := "ytgmfljabhcamlaa", sum := "2b2b93dafddeb11c05c12f22dea3c1a78aa308c08c99d62cddac1e9933a7fd0e", func := "loop.example/g00849/laws.FnExactShardsOf", spec := "fnExactShardsOf", inPlace := ["internal/abi.NoEscape", "internal/bytealg.MakeNoZero"], apart := false }
def FnExactShardsOfSaid : Prop := fnExactShardsOfRow.holds Try.pinned (OpenSpec.ofChange fnExactShardsOfSpec)

/-- ITS FALSE NEIGHBOUR: 'it returns false'. Refute it at one input. -/
def fnExactShardsOfWrong : ChangeSpec := { name := "fnExactShardsOf", fn := fun _ => fun
  | [d1, d2] => { results := [.lit (.bool false)], args := [d1, d2] }
  | _ => none }
def FnExactShardsOfWrongFalsely : Prop := fnExactShardsOfRow.holds Try.pinned (OpenSpec.ofChange fnExactShardsOfWrong)

/-- 'laws.FnStripes': WHATEVER THE INPUT: true; the input reads as it did. -/
def fnStripesSpec : ChangeSpec := { name := "fnStripes", fn := fun _ => fun
  | [d] => { results := [.lit (.bool true)], args := [d] }
  | _ => none }
def fnStripesRow : OpenClaim := { program := "ytgmfljabhcamlaa", sum := "2b2b93dafddeb11c05c12f22dea3c1a78aa308c08c99d62cddac1e9933a7fd0e", func := "loop.example/g00849/laws.FnStripes", spec := "fnStripes", inPlace := ["internal/abi.NoEscape", "internal/bytealg.MakeNoZero"], unfollowed := true, recurses := true, apart := false }
def FnStripesSaid : Prop := fnStripesRow.holds Try.pinned (OpenSpec.ofChange fnStripesSpec)

/-- ITS FALSE NEIGHBOUR: 'it returns false'. Refute it at one input. -/
def fnStripesWrong : ChangeSpec := { name := "fnStripes", fn := fun _ => fun
  | [d] => { results := [.lit (.bool false)], args := [d] }
  | _ => none }
def FnStripesWrongFalsely : Prop := fnStripesRow.holds Try.pinned (OpenSpec.ofChange fnStripesWrong)

/-- 'laws.FnExactMatPieces': WHATEVER THE INPUT: true; the input reads as it did. -/
def fnExactMatPiecesSpec : ChangeSpec := { name := "fnExactMatPieces", fn := fun _ => fun
  | [d1, d2] => { results := [.lit (.bool true)], args := [d1, d2] }
  | _ => none }
def fnExactMatPiecesRow : OpenClaim := { program := "ytgmfljabhcamlaa", sum := "2b2b93dafddeb11c05c12f22dea3c1a78aa308c08c99d62cddac1e9933a7fd0e", func := "loop.example/g00849/laws.FnExactMatPieces", spec := "fnExactMatPieces", inPlace := ["internal/abi.NoEscape", "internal/bytealg.MakeNoZero"], unfollowed := true, recurses := true, apart := false }
def FnExactMatPiecesSaid : Prop := fnExactMatPiecesRow.holds Try.pinned (OpenSpec.ofChange fnExactMatPiecesSpec)

/-- ITS FALSE NEIGHBOUR: 'it returns false'. Refute it at one input. -/
def fnExactMatPiecesWrong : ChangeSpec := { name := "fnExactMatPieces", fn := fun _ => fun
  | [d1, d2] => { results := [.lit (.bool false)], args := [d1, d2] }
  | _ => none }
def FnExactMatPiecesWrongFalsely : Prop := fnExactMatPiecesRow.holds Try.pinned (OpenSpec.ofChange fnExactMatPiecesWrong)

/-- 'laws.FnAnyK': WHATEVER THE INPUT: true; the input reads as it did. -/
def fnAnyKSpec : ChangeSpec := { name := "fnAnyK", fn := fun _ => fun
  | [d] => { results := [.lit (.bool true)], args := [d] }
  | _ => none }
def fnAnyKRow : OpenClaim := { program := "ytgmfljabhcamlaa", sum := "2b2b93dafddeb11c05c12f22dea3c1a78aa308c08c99d62cddac1e9933a7fd0e", func := "loop.example/g00849/laws.FnAnyK", spec := "fnAnyK", inPlace := ["internal/abi.NoEscape", "internal/bytealg.MakeNoZero"], apart := false }
def FnAnyKSaid : Prop := fnAnyKRow.holds Try.pinned (OpenSpec.ofChange fnAnyKSpec)

/-- ITS FALSE NEIGHBOUR: 'it returns false'. Refute it at one input. -/
def fnAnyKWrong : ChangeSpec := { name := "fnAnyK", fn := fun _ => fun
  | [d] => { results := [.lit (.bool false)], args := [d] }
  | _ => none }
def FnAnyKWrongFalsely : Prop := fnAnyKRow.holds Try.pinned (OpenSpec.ofChange fnAnyKWrong)

/-- 'laws.FnExactWideOf': WHATEVER THE INPUT: true; the input reads as it did. -/
def fnExactWideOfSpec : ChangeSpec := { name := "fnExactWideOf", fn := fun _ => fun
  | [d1, d2, d3] => { results := [.lit (.bool true)], args := [d1, d2, d3] }
  | _ => none }
def fnExactWideOfRow : OpenClaim := { program := "ytgmfljabhcamlaa", sum := "2b2b93dafddeb11c05c12f22dea3c1a78aa308c08c99d62cddac1e9933a7fd0e", func := "loop.example/g00849/laws.FnExactWideOf", spec := "fnExactWideOf", inPlace := ["internal/abi.NoEscape", "internal/bytealg.MakeNoZero"], apart := false }
def FnExactWideOfSaid : Prop := fnExactWideOfRow.holds Try.pinned (OpenSpec.ofChange fnExactWideOfSpec)

/-- ITS FALSE NEIGHBOUR: 'it returns false'. Refute it at one input. -/
def fnExactWideOfWrong : ChangeSpec := { name := "fnExactWideOf", fn := fun _ => fun
  | [d1, d2, d3] => { results := [.lit (.bool false)], args := [d1, d2, d3] }
  | _ => none }
def FnExactWideOfWrongFalsely : Prop := fnExactWideOfRow.holds Try.pinned (OpenSpec.ofChange fnExactWideOfWrong)

/-- 'laws.FnRebuilt': WHATEVER THE INPUT: true; the input reads as it did. -/
def fnRebuiltSpec : ChangeSpec := { name := "fnRebuilt", fn := fun _ => fun
  | [d] => { results := [.lit (.bool true)], args := [d] }
  | _ => none }
def fnRebuiltRow : OpenClaim := { program := "ytgmfljabhcamlaa", sum := "2b2b93dafddeb11c05c12f22dea3c1a78aa308c08c99d62cddac1e9933a7fd0e", func := "loop.example/g00849/laws.FnRebuilt", spec := "fnRebuilt", inPlace := ["internal/abi.NoEscape", "internal/bytealg.MakeNoZero"], apart := false }
def FnRebuiltSaid : Prop := fnRebuiltRow.holds Try.pinned (OpenSpec.ofChange fnRebuiltSpec)

/-- ITS FALSE NEIGHBOUR: 'it returns false'. Refute it at one input. -/
def fnRebuiltWrong : ChangeSpec := { name := "fnRebuilt", fn := fun _ => fun
  | [d] => { results := [.lit (.bool false)], args := [d] }
  | _ => none }
def FnRebuiltWrongFalsely : Prop := fnRebuiltRow.holds Try.pinned (OpenSpec.ofChange fnRebuiltWrong)

/-- 'laws.FnLost': WHATEVER THE INPUT: true; the input reads as it did. -/
def fnLostSpec : ChangeSpec := { name := "fnLost", fn := fun _ => fun
  | [d] => { results := [.lit (.bool true)], args := [d] }
  | _ => none }
def fnLostRow : OpenClaim := { program := "ytgmfljabhcamlaa", sum := "2b2b93dafddeb11c05c12f22dea3c1a78aa308c08c99d62cddac1e9933a7fd0e", func := "loop.example/g00849/laws.FnLost", spec := "fnLost", inPlace := ["internal/abi.NoEscape", "internal/bytealg.MakeNoZero"], unfollowed := true, recurses := true, apart := false }
def FnLostSaid : Prop := fnLostRow.holds Try.pinned (OpenSpec.ofChange fnLostSpec)

/-- ITS FALSE NEIGHBOUR: 'it returns false'. Refute it at one input. -/
def fnLostWrong : ChangeSpec := { name := "fnLost", fn := fun _ => fun
  | [d] => { results := [.lit (.bool false)], args := [d] }
  | _ => none }
def FnLostWrongFalsely : Prop := fnLostRow.holds Try.pinned (OpenSpec.ofChange fnLostWrong)

/-- 'laws.FnDeltas': WHATEVER THE INPUT: true; the input reads as it did. -/
def fnDeltasSpec : ChangeSpec := { name := "fnDeltas", fn := fun _ => fun
  | [d] => { results := [.lit (.bool true)], args := [d] }
  | _ => none }
def fnDeltasRow : OpenClaim := { program := "ytgmfljabhcamlaa", sum := "2b2b93dafddeb11c05c12f22dea3c1a78aa308c08c99d62cddac1e9933a7fd0e", func := "loop.example/g00849/laws.FnDeltas", spec := "fnDeltas", inPlace := ["internal/abi.NoEscape", "internal/bytealg.MakeNoZero"], unfollowed := true, recurses := true, apart := false }
def FnDeltasSaid : Prop := fnDeltasRow.holds Try.pinned (OpenSpec.ofChange fnDeltasSpec)

/-- ITS FALSE NEIGHBOUR: 'it returns false'. Refute it at one input. -/
def fnDeltasWrong : ChangeSpec := { name := "fnDeltas", fn := fun _ => fun
  | [d] => { results := [.lit (.bool false)], args := [d] }
  | _ => none }
def FnDeltasWrongFalsely : Prop := fnDeltasRow.holds Try.pinned (OpenSpec.ofChange fnDeltasWrong)

/-- 'laws.FnExactWideWhole': WHATEVER THE INPUT: true; the input reads as it did. -/
def fnExactWideWholeSpec : ChangeSpec := { name := "fnExactWideWhole", fn := fun _ => fun
  | [d] => { results := [.lit (.bool true)], args := [d] }
  | _ => none }
def fnExactWideWholeRow : OpenClaim := { program := "ytgmfljabhcamlaa", sum := "2b2b93dafddeb11c05c12f22dea3c1a78aa308c08c99d62cddac1e9933a7fd0e", func := "loop.example/g00849/laws.FnExactWideWhole", spec := "fnExactWideWhole", inPlace := ["internal/abi.NoEscape", "internal/bytealg.MakeNoZero"], unfollowed := true, recurses := true, apart := false }
def FnExactWideWholeSaid : Prop := fnExactWideWholeRow.holds Try.pinned (OpenSpec.ofChange fnExactWideWholeSpec)

/-- ITS FALSE NEIGHBOUR: 'it returns false'. Refute it at one input. -/
def fnExactWideWholeWrong : ChangeSpec := { name := "fnExactWideWhole", fn := fun _ => fun
  | [d] => { results := [.lit (.bool false)], args := [d] }
  | _ => none }
def FnExactWideWholeWrongFalsely : Prop := fnExactWideWholeRow.holds Try.pinned (OpenSpec.ofChange fnExactWideWholeWrong)

/-- 'laws.FnExactRebuild': WHATEVER THE INPUT: true; the input reads as it did. -/
def fnExactRebuildSpec : ChangeSpec := { name := "fnExactRebuild", fn := fun _ => fun
  | [d1, d2, d3, d4] => { results := [.lit (.bool true)], args := [d1, d2, d3, d4] }
  | _ => none }
def fnExactRebuildRow : OpenClaim := { program := "ytgmfljabhcamlaa", sum := "2b2b93dafddeb11c05c12f22dea3c1a78aa308c08c99d62cddac1e9933a7fd0e", func := "loop.example/g00849/laws.FnExactRebuild", spec := "fnExactRebuild", inPlace := ["internal/abi.NoEscape", "internal/bytealg.MakeNoZero"], apart := false }
def FnExactRebuildSaid : Prop := fnExactRebuildRow.holds Try.pinned (OpenSpec.ofChange fnExactRebuildSpec)

/-- ITS FALSE NEIGHBOUR: 'it returns false'. Refute it at one input. -/
def fnExactRebuildWrong : ChangeSpec := { name := "fnExactRebuild", fn := fun _ => fun
  | [d1, d2, d3, d4] => { results := [.lit (.bool false)], args := [d1, d2, d3, d4] }
  | _ => none }
def FnExactRebuildWrongFalsely : Prop := fnExactRebuildRow.holds Try.pinned (OpenSpec.ofChange fnExactRebuildWrong)

/-- 'laws.FnExactBodyOf': WHATEVER THE INPUT: true; the input reads as it did. -/
def fnExactBodyOfSpec : ChangeSpec := { name := "fnExactBodyOf", fn := fun _ => fun
  | [d1, d2, d3] => { results := [.lit (.bool true)], args := [d1, d2, d3] }
  | _ => none }
def fnExactBodyOfRow : OpenClaim := { program := "ytgmfljabhcamlaa", sum := "2b2b93dafddeb11c05c12f22dea3c1a78aa308c08c99d62cddac1e9933a7fd0e", func := "loop.example/g00849/laws.FnExactBodyOf", spec := "fnExactBodyOf", inPlace := ["internal/abi.NoEscape", "internal/bytealg.MakeNoZero"], apart := false }
def FnExactBodyOfSaid : Prop := fnExactBodyOfRow.holds Try.pinned (OpenSpec.ofChange fnExactBodyOfSpec)

/-- ITS FALSE NEIGHBOUR: 'it returns false'. Refute it at one input. -/
def fnExactBodyOfWrong : ChangeSpec := { name := "fnExactBodyOf", fn := fun _ => fun
  | [d1, d2, d3] => { results := [.lit (.bool false)], args := [d1, d2, d3] }
  | _ => none }
def FnExactBodyOfWrongFalsely : Prop := fnExactBodyOfRow.holds Try.pinned (OpenSpec.ofChange fnExactBodyOfWrong)

/- THE SECOND FORM. 'bulk': how many values and letters a reading holds, each counted each time it is reached (what is shared counts as often as it is met; a slice's spare places count too). A statement '..UptoSaid' is the law's where the arguments, and the package variables that the reading takes, are together of bulk at most 1048576: NARROWER than '..Said'. Prove '..Said' where nothing that the law and all that it calls make is longer than what came in: it says more and counts as full. Else prove '..UptoSaid'. A law counts once. -/
mutual
def uptoBulk {H : Type} : DataW H → Nat
  | .lit (.string bytes) => bytes.length + 1
  | .lit _ => 1
  | .nil => 1
  | .ptr d => uptoBulk d + 1
  | .slice elems spare => uptoBulkAll elems + uptoBulkAll spare + 1
  | .agg parts => uptoBulkAll parts + 1
  | .iface _ d => uptoBulk d + 1
  | .map entries => uptoBulkEntries entries + 1
  | .held _ => 1
def uptoBulkAll {H : Type} : List (DataW H) → Nat
  | [] => 0
  | d :: r => uptoBulk d + uptoBulkAll r
def uptoBulkEntries {H : Type} : List (Lit × DataW H) → Nat
  | [] => 0
  | x :: r => uptoBulkEntry x + uptoBulkEntries r
def uptoBulkEntry {H : Type} : Lit × DataW H → Nat
  | (.string bytes, d) => bytes.length + uptoBulk d + 1
  | (_, d) => uptoBulk d + 1
 end
def uptoSmall : (H : Type) → List (DataW H) → Bool := fun _ ds => decide (uptoBulkAll ds ≤ 1048576)
def OpenSpec.upto (s : _root_.Go.ChangeSpec) : _root_.Go.OpenSpec := { _root_.Go.OpenSpec.ofChange s with cond := some uptoSmall }

/-- 'laws.FnExactShardAt', WHERE WHAT IT READS IS OF BULK AT MOST 1048576: true; the input reads as it did. -/
def fnExactShardAtUptoRow : OpenClaim := { program := "ytgmfljabhcamlaa", sum := "2b2b93dafddeb11c05c12f22dea3c1a78aa308c08c99d62cddac1e9933a7fd0e", func := "loop.example/g00849/laws.FnExactShardAt", spec := "fnExactShardAt", inPlace := ["internal/abi.NoEscape", "internal/bytealg.MakeNoZero"], apart := false, narrowed := true }
def FnExactShardAtUptoSaid : Prop := fnExactShardAtUptoRow.holds Try.pinned (OpenSpec.upto fnExactShardAtSpec)

/-- 'laws.FnExactShardsOf', WHERE WHAT IT READS IS OF BULK AT MOST 1048576: true; the input reads as it did. -/
def fnExactShardsOfUptoRow : OpenClaim := { program := "ytgmfljabhcamlaa", sum := "2b2b93dafddeb11c05c12f22dea3c1a78aa308c08c99d62cddac1e9933a7fd0e", func := "loop.example/g00849/laws.FnExactShardsOf", spec := "fnExactShardsOf", inPlace := ["internal/abi.NoEscape", "internal/bytealg.MakeNoZero"], apart := false, narrowed := true }
def FnExactShardsOfUptoSaid : Prop := fnExactShardsOfUptoRow.holds Try.pinned (OpenSpec.upto fnExactShardsOfSpec)

/-- 'laws.FnStripes', WHERE WHAT IT READS IS OF BULK AT MOST 1048576: true; the input reads as it did. -/
def fnStripesUptoRow : OpenClaim := { program := "ytgmfljabhcamlaa", sum := "2b2b93dafddeb11c05c12f22dea3c1a78aa308c08c99d62cddac1e9933a7fd0e", func := "loop.example/g00849/laws.FnStripes", spec := "fnStripes", inPlace := ["internal/abi.NoEscape", "internal/bytealg.MakeNoZero"], unfollowed := true, recurses := true, apart := false, narrowed := true }
def FnStripesUptoSaid : Prop := fnStripesUptoRow.holds Try.pinned (OpenSpec.upto fnStripesSpec)

/-- 'laws.FnExactMatPieces', WHERE WHAT IT READS IS OF BULK AT MOST 1048576: true; the input reads as it did. -/
def fnExactMatPiecesUptoRow : OpenClaim := { program := "ytgmfljabhcamlaa", sum := "2b2b93dafddeb11c05c12f22dea3c1a78aa308c08c99d62cddac1e9933a7fd0e", func := "loop.example/g00849/laws.FnExactMatPieces", spec := "fnExactMatPieces", inPlace := ["internal/abi.NoEscape", "internal/bytealg.MakeNoZero"], unfollowed := true, recurses := true, apart := false, narrowed := true }
def FnExactMatPiecesUptoSaid : Prop := fnExactMatPiecesUptoRow.holds Try.pinned (OpenSpec.upto fnExactMatPiecesSpec)

/-- 'laws.FnAnyK', WHERE WHAT IT READS IS OF BULK AT MOST 1048576: true; the input reads as it did. -/
def fnAnyKUptoRow : OpenClaim := { program := "ytgmfljabhcamlaa", sum := "2b2b93dafddeb11c05c12f22dea3c1a78aa308c08c99d62cddac1e9933a7fd0e", func := "loop.example/g00849/laws.FnAnyK", spec := "fnAnyK", inPlace := ["internal/abi.NoEscape", "internal/bytealg.MakeNoZero"], apart := false, narrowed := true }
def FnAnyKUptoSaid : Prop := fnAnyKUptoRow.holds Try.pinned (OpenSpec.upto fnAnyKSpec)

/-- 'laws.FnExactWideOf', WHERE WHAT IT READS IS OF BULK AT MOST 1048576: true; the input reads as it did. -/
def fnExactWideOfUptoRow : OpenClaim := { program := "ytgmfljabhcamlaa", sum := "2b2b93dafddeb11c05c12f22dea3c1a78aa308c08c99d62cddac1e9933a7fd0e", func := "loop.example/g00849/laws.FnExactWideOf", spec := "fnExactWideOf", inPlace := ["internal/abi.NoEscape", "internal/bytealg.MakeNoZero"], apart := false, narrowed := true }
def FnExactWideOfUptoSaid : Prop := fnExactWideOfUptoRow.holds Try.pinned (OpenSpec.upto fnExactWideOfSpec)

/-- 'laws.FnRebuilt', WHERE WHAT IT READS IS OF BULK AT MOST 1048576: true; the input reads as it did. -/
def fnRebuiltUptoRow : OpenClaim := { program := "ytgmfljabhcamlaa", sum := "2b2b93dafddeb11c05c12f22dea3c1a78aa308c08c99d62cddac1e9933a7fd0e", func := "loop.example/g00849/laws.FnRebuilt", spec := "fnRebuilt", inPlace := ["internal/abi.NoEscape", "internal/bytealg.MakeNoZero"], apart := false, narrowed := true }
def FnRebuiltUptoSaid : Prop := fnRebuiltUptoRow.holds Try.pinned (OpenSpec.upto fnRebuiltSpec)

/-- 'laws.FnLost', WHERE WHAT IT READS IS OF BULK AT MOST 1048576: true; the input reads as it did. -/
def fnLostUptoRow : OpenClaim := { program := "ytgmfljabhcamlaa", sum := "2b2b93dafddeb11c05c12f22dea3c1a78aa308c08c99d62cddac1e9933a7fd0e", func := "loop.example/g00849/laws.FnLost", spec := "fnLost", inPlace := ["internal/abi.NoEscape", "internal/bytealg.MakeNoZero"], unfollowed := true, recurses := true, apart := false, narrowed := true }
def FnLostUptoSaid : Prop := fnLostUptoRow.holds Try.pinned (OpenSpec.upto fnLostSpec)

/-- 'laws.FnDeltas', WHERE WHAT IT READS IS OF BULK AT MOST 1048576: true; the input reads as it did. -/
def fnDeltasUptoRow : OpenClaim := { program := "ytgmfljabhcamlaa", sum := "2b2b93dafddeb11c05c12f22dea3c1a78aa308c08c99d62cddac1e9933a7fd0e", func := "loop.example/g00849/laws.FnDeltas", spec := "fnDeltas", inPlace := ["internal/abi.NoEscape", "internal/bytealg.MakeNoZero"], unfollowed := true, recurses := true, apart := false, narrowed := true }
def FnDeltasUptoSaid : Prop := fnDeltasUptoRow.holds Try.pinned (OpenSpec.upto fnDeltasSpec)

/-- 'laws.FnExactWideWhole', WHERE WHAT IT READS IS OF BULK AT MOST 1048576: true; the input reads as it did. -/
def fnExactWideWholeUptoRow : OpenClaim := { program := "ytgmfljabhcamlaa", sum := "2b2b93dafddeb11c05c12f22dea3c1a78aa308c08c99d62cddac1e9933a7fd0e", func := "loop.example/g00849/laws.FnExactWideWhole", spec := "fnExactWideWhole", inPlace := ["internal/abi.NoEscape", "internal/bytealg.MakeNoZero"], unfollowed := true, recurses := true, apart := false, narrowed := true }
def FnExactWideWholeUptoSaid : Prop := fnExactWideWholeUptoRow.holds Try.pinned (OpenSpec.upto fnExactWideWholeSpec)

/-- 'laws.FnExactRebuild', WHERE WHAT IT READS IS OF BULK AT MOST 1048576: true; the input reads as it did. -/
def fnExactRebuildUptoRow : OpenClaim := { program := "ytgmfljabhcamlaa", sum := "2b2b93dafddeb11c05c12f22dea3c1a78aa308c08c99d62cddac1e9933a7fd0e", func := "loop.example/g00849/laws.FnExactRebuild", spec := "fnExactRebuild", inPlace := ["internal/abi.NoEscape", "internal/bytealg.MakeNoZero"], apart := false, narrowed := true }
def FnExactRebuildUptoSaid : Prop := fnExactRebuildUptoRow.holds Try.pinned (OpenSpec.upto fnExactRebuildSpec)

/-- 'laws.FnExactBodyOf', WHERE WHAT IT READS IS OF BULK AT MOST 1048576: true; the input reads as it did. -/
def fnExactBodyOfUptoRow : OpenClaim := { program := "ytgmfljabhcamlaa", sum := "2b2b93dafddeb11c05c12f22dea3c1a78aa308c08c99d62cddac1e9933a7fd0e", func := "loop.example/g00849/laws.FnExactBodyOf", spec := "fnExactBodyOf", inPlace := ["internal/abi.NoEscape", "internal/bytealg.MakeNoZero"], apart := false, narrowed := true }
def FnExactBodyOfUptoSaid : Prop := fnExactBodyOfUptoRow.holds Try.pinned (OpenSpec.upto fnExactBodyOfSpec)

end Rows
end Go.Proofs.Ytgmfljabhcamlaa
