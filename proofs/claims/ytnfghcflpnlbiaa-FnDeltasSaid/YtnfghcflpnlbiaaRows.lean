/-
  No cell of these rows narrows 'for every input' (looked for: loops, veiled, ifaces, maps, wideKeys, modest, calm, conditions, laid).
  DERIVED. THE GIVEN ROWS OF THIS SEAT. 13 by the template 'for every input the law returns true; each argument reads behind the call as it read before'; 0 by the template 'total and deterministic' (their statements: YtnfghcflpnlbiaaTotals.lean).
  GIVEN WITH THE SEED: the statements are not yours to turn. If you find one false, say at which input.
  Laid BY PROGRAM, IN A SANDBOX (cutbox-rows.mjs): the forced cells as the released guide's own fill.sh prints them over the translation a3bd228c5a01de54… (all of the seat's roots in one cut). By AI agents, Wed Nov 11 2026. No macro, syntax, notation, axiom, sorry.
-/
import Derived.Test.YtnfghcflpnlbiaaChecked
import GoSem.Claim
import GoSem.ClaimJoined
import GoSem.ClaimMapViews
import Derived.JoinedTies
import Derived.KernelRfl
namespace Go.Proofs.Ytnfghcflpnlbiaa
/- THE CELL 'sum', in the pinned program and in every row, IS THE sha256 OF THE DUMP (.gsa) THAT YtnfghcflpnlbiaaProg.lean LOADS. Nothing in Lean hashes anything: it is a label: what it is worth is what the hold of that sum in a sandbox is worth. -/
noncomputable def Try.pinned : Pinned := { name := "ytnfghcflpnlbiaa", sum := "a3bd228c5a01de54c98f37732fae919fc8be47ce0febf4c2a612bd04b9767765", checked := Try.checked }
namespace Rows
def none {H : Type} : Left H := { results := [], args := [] }

/-- 'laws.FnExactBodyOf': WHATEVER THE INPUT: true; the input reads as it did. -/
def fnExactBodyOfSpec : ChangeSpec := { name := "fnExactBodyOf", fn := fun _ => fun
  | [d1, d2, d3] => { results := [.lit (.bool true)], args := [d1, d2, d3] }
  | _ => none }
def fnExactBodyOfRow : OpenClaim := { program := "ytnfghcflpnlbiaa", sum := "a3bd228c5a01de54c98f37732fae919fc8be47ce0febf4c2a612bd04b9767765", func := "loop.example/g00849/laws.FnExactBodyOf", spec := "fnExactBodyOf", inPlace := ["internal/abi.NoEscape", "internal/bytealg.MakeNoZero"], apart := false }
def FnExactBodyOfSaid : Prop := fnExactBodyOfRow.holds Try.pinned (OpenSpec.ofChange fnExactBodyOfSpec)

/-- ITS FALSE NEIGHBOUR: 'it returns false'. Refute it at one input. -/
def fnExactBodyOfWrong : ChangeSpec := { name := "fnExactBodyOf", fn := fun _ => fun
  | [d1, d2, d3] => { results := [.lit (.bool false)], args := [d1, d2, d3] }
  | _ => none }
def FnExactBodyOfWrongFalsely : Prop := fnExactBodyOfRow.holds Try.pinned (OpenSpec.ofChange fnExactBodyOfWrong)

/-- 'laws.FnExactRebuild': WHATEVER THE INPUT: true; the input reads as it did. -/
def fnExactRebuildSpec : ChangeSpec := { name := "fnExactRebuild", fn := fun _ => fun
  | [d1, d2, d3, d4] => { results := [.lit (.bool true)], args := [d1, d2, d3, d4] }
  | _ => none }
def fnExactRebuildRow : OpenClaim := { program := "ytnfghcflpnlbiaa", sum := "a3bd228c5a01de54c98f37732fae919fc8be47ce0febf4c2a612bd04b9767765", func := "loop.example/g00849/laws.FnExactRebuild", spec := "fnExactRebuild", inPlace := ["internal/abi.NoEscape", "internal/bytealg.MakeNoZero"], apart := false }
def FnExactRebuildSaid : Prop := fnExactRebuildRow.holds Try.pinned (OpenSpec.ofChange fnExactRebuildSpec)

/-- ITS FALSE NEIGHBOUR: 'it returns false'. Refute it at one input. -/
def fnExactRebuildWrong : ChangeSpec := { name := "fnExactRebuild", fn := fun _ => fun
  | [d1, d2, d3, d4] => { results := [.lit (.bool false)], args := [d1, d2, d3, d4] }
  | _ => none }
def FnExactRebuildWrongFalsely : Prop := fnExactRebuildRow.holds Try.pinned (OpenSpec.ofChange fnExactRebuildWrong)

/-- 'laws.FnExactOddShards': WHATEVER THE INPUT: true; the input reads as it did. -/
def fnExactOddShardsSpec : ChangeSpec := { name := "fnExactOddShards", fn := fun _ => fun
  | [d1, d2, d3] => { results := [.lit (.bool true)], args := [d1, d2, d3] }
  | _ => none }
def fnExactOddShardsRow : OpenClaim := { program := "ytnfghcflpnlbiaa", sum := "a3bd228c5a01de54c98f37732fae919fc8be47ce0febf4c2a612bd04b9767765", func := "loop.example/g00849/laws.FnExactOddShards", spec := "fnExactOddShards", inPlace := ["internal/abi.NoEscape", "internal/bytealg.MakeNoZero"], apart := false }
def FnExactOddShardsSaid : Prop := fnExactOddShardsRow.holds Try.pinned (OpenSpec.ofChange fnExactOddShardsSpec)

/-- ITS FALSE NEIGHBOUR: 'it returns false'. Refute it at one input. -/
def fnExactOddShardsWrong : ChangeSpec := { name := "fnExactOddShards", fn := fun _ => fun
  | [d1, d2, d3] => { results := [.lit (.bool false)], args := [d1, d2, d3] }
  | _ => none }
def FnExactOddShardsWrongFalsely : Prop := fnExactOddShardsRow.holds Try.pinned (OpenSpec.ofChange fnExactOddShardsWrong)

/-- 'laws.FnAnyK': WHATEVER THE INPUT: true; the input reads as it did. -/
def fnAnyKSpec : ChangeSpec := { name := "fnAnyK", fn := fun _ => fun
  | [d] => { results := [.lit (.bool true)], args := [d] }
  | _ => none }
def fnAnyKRow : OpenClaim := { program := "ytnfghcflpnlbiaa", sum := "a3bd228c5a01de54c98f37732fae919fc8be47ce0febf4c2a612bd04b9767765", func := "loop.example/g00849/laws.FnAnyK", spec := "fnAnyK", inPlace := ["internal/abi.NoEscape", "internal/bytealg.MakeNoZero"], apart := false }
def FnAnyKSaid : Prop := fnAnyKRow.holds Try.pinned (OpenSpec.ofChange fnAnyKSpec)

/-- ITS FALSE NEIGHBOUR: 'it returns false'. Refute it at one input. -/
def fnAnyKWrong : ChangeSpec := { name := "fnAnyK", fn := fun _ => fun
  | [d] => { results := [.lit (.bool false)], args := [d] }
  | _ => none }
def FnAnyKWrongFalsely : Prop := fnAnyKRow.holds Try.pinned (OpenSpec.ofChange fnAnyKWrong)

/-- 'laws.FnRebuilt': WHATEVER THE INPUT: true; the input reads as it did. -/
def fnRebuiltSpec : ChangeSpec := { name := "fnRebuilt", fn := fun _ => fun
  | [d] => { results := [.lit (.bool true)], args := [d] }
  | _ => none }
def fnRebuiltRow : OpenClaim := { program := "ytnfghcflpnlbiaa", sum := "a3bd228c5a01de54c98f37732fae919fc8be47ce0febf4c2a612bd04b9767765", func := "loop.example/g00849/laws.FnRebuilt", spec := "fnRebuilt", inPlace := ["internal/abi.NoEscape", "internal/bytealg.MakeNoZero"], apart := false }
def FnRebuiltSaid : Prop := fnRebuiltRow.holds Try.pinned (OpenSpec.ofChange fnRebuiltSpec)

/-- ITS FALSE NEIGHBOUR: 'it returns false'. Refute it at one input. -/
def fnRebuiltWrong : ChangeSpec := { name := "fnRebuilt", fn := fun _ => fun
  | [d] => { results := [.lit (.bool false)], args := [d] }
  | _ => none }
def FnRebuiltWrongFalsely : Prop := fnRebuiltRow.holds Try.pinned (OpenSpec.ofChange fnRebuiltWrong)

/-- 'laws.FnExactWideOf': WHATEVER THE INPUT: true; the input reads as it did. -/
def fnExactWideOfSpec : ChangeSpec := { name := "fnExactWideOf", fn := fun _ => fun
  | [d1, d2, d3] => { results := [.lit (.bool true)], args := [d1, d2, d3] }
  | _ => none }
def fnExactWideOfRow : OpenClaim := { program := "ytnfghcflpnlbiaa", sum := "a3bd228c5a01de54c98f37732fae919fc8be47ce0febf4c2a612bd04b9767765", func := "loop.example/g00849/laws.FnExactWideOf", spec := "fnExactWideOf", inPlace := ["internal/abi.NoEscape", "internal/bytealg.MakeNoZero"], apart := false }
def FnExactWideOfSaid : Prop := fnExactWideOfRow.holds Try.pinned (OpenSpec.ofChange fnExactWideOfSpec)

/-- ITS FALSE NEIGHBOUR: 'it returns false'. Refute it at one input. -/
def fnExactWideOfWrong : ChangeSpec := { name := "fnExactWideOf", fn := fun _ => fun
  | [d1, d2, d3] => { results := [.lit (.bool false)], args := [d1, d2, d3] }
  | _ => none }
def FnExactWideOfWrongFalsely : Prop := fnExactWideOfRow.holds Try.pinned (OpenSpec.ofChange fnExactWideOfWrong)

/-- 'laws.FnStripes': WHATEVER THE INPUT: true; the input reads as it did. -/
def fnStripesSpec : ChangeSpec := { name := "fnStripes", fn := fun _ => fun
  | [d] => { results := [.lit (.bool true)], args := [d] }
  | _ => none }
def fnStripesRow : OpenClaim := { program := "ytnfghcflpnlbiaa", sum := "a3bd228c5a01de54c98f37732fae919fc8be47ce0febf4c2a612bd04b9767765", func := "loop.example/g00849/laws.FnStripes", spec := "fnStripes", inPlace := ["internal/abi.NoEscape", "internal/bytealg.MakeNoZero"], unfollowed := true, recurses := true, apart := false }
def FnStripesSaid : Prop := fnStripesRow.holds Try.pinned (OpenSpec.ofChange fnStripesSpec)

/-- ITS FALSE NEIGHBOUR: 'it returns false'. Refute it at one input. -/
def fnStripesWrong : ChangeSpec := { name := "fnStripes", fn := fun _ => fun
  | [d] => { results := [.lit (.bool false)], args := [d] }
  | _ => none }
def FnStripesWrongFalsely : Prop := fnStripesRow.holds Try.pinned (OpenSpec.ofChange fnStripesWrong)

/-- 'laws.FnExactWideWhole': WHATEVER THE INPUT: true; the input reads as it did. -/
def fnExactWideWholeSpec : ChangeSpec := { name := "fnExactWideWhole", fn := fun _ => fun
  | [d] => { results := [.lit (.bool true)], args := [d] }
  | _ => none }
def fnExactWideWholeRow : OpenClaim := { program := "ytnfghcflpnlbiaa", sum := "a3bd228c5a01de54c98f37732fae919fc8be47ce0febf4c2a612bd04b9767765", func := "loop.example/g00849/laws.FnExactWideWhole", spec := "fnExactWideWhole", inPlace := ["internal/abi.NoEscape", "internal/bytealg.MakeNoZero"], unfollowed := true, recurses := true, apart := false }
def FnExactWideWholeSaid : Prop := fnExactWideWholeRow.holds Try.pinned (OpenSpec.ofChange fnExactWideWholeSpec)

/-- ITS FALSE NEIGHBOUR: 'it returns false'. Refute it at one input. -/
def fnExactWideWholeWrong : ChangeSpec := { name := "fnExactWideWhole", fn := fun _ => fun
  | [d] => { results := [.lit (.bool false)], args := [d] }
  | _ => none }
def FnExactWideWholeWrongFalsely : Prop := fnExactWideWholeRow.holds Try.pinned (OpenSpec.ofChange fnExactWideWholeWrong)

/-- 'laws.FnLost': WHATEVER THE INPUT: true; the input reads as it did. -/
def fnLostSpec : ChangeSpec := { name := "fnLost", fn := fun _ => fun
  | [d] => { results := [.lit (.bool true)], args := [d] }
  | _ => none }
def fnLostRow : OpenClaim := { program := "ytnfghcflpnlbiaa", sum := "a3bd228c5a01de54c98f37732fae919fc8be47ce0febf4c2a612bd04b9767765", func := "loop.example/g00849/laws.FnLost", spec := "fnLost", inPlace := ["internal/abi.NoEscape", "internal/bytealg.MakeNoZero"], unfollowed := true, recurses := true, apart := false }
def FnLostSaid : Prop := fnLostRow.holds Try.pinned (OpenSpec.ofChange fnLostSpec)

/-- ITS FALSE NEIGHBOUR: 'it returns false'. Refute it at one input. -/
def fnLostWrong : ChangeSpec := { name := "fnLost", fn := fun _ => fun
  | [d] => { results := [.lit (.bool false)], args := [d] }
  | _ => none }
def FnLostWrongFalsely : Prop := fnLostRow.holds Try.pinned (OpenSpec.ofChange fnLostWrong)

/-- 'laws.FnExactReadLost': WHATEVER THE INPUT: true; the input reads as it did. -/
def fnExactReadLostSpec : ChangeSpec := { name := "fnExactReadLost", fn := fun _ => fun
  | [d1, d2, d3, d4] => { results := [.lit (.bool true)], args := [d1, d2, d3, d4] }
  | _ => none }
def fnExactReadLostRow : OpenClaim := { program := "ytnfghcflpnlbiaa", sum := "a3bd228c5a01de54c98f37732fae919fc8be47ce0febf4c2a612bd04b9767765", func := "loop.example/g00849/laws.FnExactReadLost", spec := "fnExactReadLost", inPlace := ["internal/abi.NoEscape", "internal/bytealg.MakeNoZero"], unfollowed := true, recurses := true, apart := false }
def FnExactReadLostSaid : Prop := fnExactReadLostRow.holds Try.pinned (OpenSpec.ofChange fnExactReadLostSpec)

/-- ITS FALSE NEIGHBOUR: 'it returns false'. Refute it at one input. -/
def fnExactReadLostWrong : ChangeSpec := { name := "fnExactReadLost", fn := fun _ => fun
  | [d1, d2, d3, d4] => { results := [.lit (.bool false)], args := [d1, d2, d3, d4] }
  | _ => none }
def FnExactReadLostWrongFalsely : Prop := fnExactReadLostRow.holds Try.pinned (OpenSpec.ofChange fnExactReadLostWrong)

/-- 'laws.FnExactDeltasOf': WHATEVER THE INPUT: true; the input reads as it did. -/
def fnExactDeltasOfSpec : ChangeSpec := { name := "fnExactDeltasOf", fn := fun _ => fun
  | [d1, d2, d3] => { results := [.lit (.bool true)], args := [d1, d2, d3] }
  | _ => none }
def fnExactDeltasOfRow : OpenClaim := { program := "ytnfghcflpnlbiaa", sum := "a3bd228c5a01de54c98f37732fae919fc8be47ce0febf4c2a612bd04b9767765", func := "loop.example/g00849/laws.FnExactDeltasOf", spec := "fnExactDeltasOf", inPlace := ["internal/abi.NoEscape", "internal/bytealg.MakeNoZero"], unfollowed := true, recurses := true, apart := false }
def FnExactDeltasOfSaid : Prop := fnExactDeltasOfRow.holds Try.pinned (OpenSpec.ofChange fnExactDeltasOfSpec)

/-- ITS FALSE NEIGHBOUR: 'it returns false'. Refute it at one input. -/
def fnExactDeltasOfWrong : ChangeSpec := { name := "fnExactDeltasOf", fn := fun _ => fun
  | [d1, d2, d3] => { results := [.lit (.bool false)], args := [d1, d2, d3] }
  | _ => none }
def FnExactDeltasOfWrongFalsely : Prop := fnExactDeltasOfRow.holds Try.pinned (OpenSpec.ofChange fnExactDeltasOfWrong)

/-- 'laws.FnExactWriteWide': WHATEVER THE INPUT: true; the input reads as it did. -/
def fnExactWriteWideSpec : ChangeSpec := { name := "fnExactWriteWide", fn := fun _ => fun
  | [d1, d2, d3] => { results := [.lit (.bool true)], args := [d1, d2, d3] }
  | _ => none }
def fnExactWriteWideRow : OpenClaim := { program := "ytnfghcflpnlbiaa", sum := "a3bd228c5a01de54c98f37732fae919fc8be47ce0febf4c2a612bd04b9767765", func := "loop.example/g00849/laws.FnExactWriteWide", spec := "fnExactWriteWide", inPlace := ["internal/abi.NoEscape", "internal/bytealg.MakeNoZero"], unfollowed := true, recurses := true, apart := false }
def FnExactWriteWideSaid : Prop := fnExactWriteWideRow.holds Try.pinned (OpenSpec.ofChange fnExactWriteWideSpec)

/-- ITS FALSE NEIGHBOUR: 'it returns false'. Refute it at one input. -/
def fnExactWriteWideWrong : ChangeSpec := { name := "fnExactWriteWide", fn := fun _ => fun
  | [d1, d2, d3] => { results := [.lit (.bool false)], args := [d1, d2, d3] }
  | _ => none }
def FnExactWriteWideWrongFalsely : Prop := fnExactWriteWideRow.holds Try.pinned (OpenSpec.ofChange fnExactWriteWideWrong)

/-- 'laws.FnDeltas': WHATEVER THE INPUT: true; the input reads as it did. -/
def fnDeltasSpec : ChangeSpec := { name := "fnDeltas", fn := fun _ => fun
  | [d] => { results := [.lit (.bool true)], args := [d] }
  | _ => none }
def fnDeltasRow : OpenClaim := { program := "ytnfghcflpnlbiaa", sum := "a3bd228c5a01de54c98f37732fae919fc8be47ce0febf4c2a612bd04b9767765", func := "loop.example/g00849/laws.FnDeltas", spec := "fnDeltas", inPlace := ["internal/abi.NoEscape", "internal/bytealg.MakeNoZero"], unfollowed := true, recurses := true, apart := false }
def FnDeltasSaid : Prop := fnDeltasRow.holds Try.pinned (OpenSpec.ofChange fnDeltasSpec)

/-- ITS FALSE NEIGHBOUR: 'it returns false'. Refute it at one input. -/
def fnDeltasWrong : ChangeSpec := { name := "fnDeltas", fn := fun _ => fun
  | [d] => { results := [.lit (.bool false)], args := [d] }
  | _ => none }
def FnDeltasWrongFalsely : Prop := fnDeltasRow.holds Try.pinned (OpenSpec.ofChange fnDeltasWrong)

/- THE SECOND FORM. 'bulk': how many values and letters a reading holds, each counted each time it is reached (what is shared counts as often as it is met; a slice's spare places count too). A statement '..UptoSaid' is the law's where the arguments, and the package variables that the reading takes, are together of bulk at most 1048576: NARROWER than '..Said'. Prove '..Said' where nothing that the law and all that it calls make is longer than what came in: it says more and counts as full. Else prove '..UptoSaid'. A law counts once. -/
mutual
def uptoBulk {H : Type} : DataW H → Nat
  | .lit (.string bytes) => bytes.length + 1
  | .lit _ => 1
  | .nil => 1
  | .ptr d => uptoBulk d + 1
  | .slice elems spare => uptoBulkAll elems + uptoBulkAll spare + 1
  | .agg parts => uptoBulkAll parts + 1
  | .iface _ d => uptoBulk d + 1
  | .map entries => uptoBulkEntries entries + 1
  | .held _ => 1
def uptoBulkAll {H : Type} : List (DataW H) → Nat
  | [] => 0
  | d :: r => uptoBulk d + uptoBulkAll r
def uptoBulkEntries {H : Type} : List (Lit × DataW H) → Nat
  | [] => 0
  | x :: r => uptoBulkEntry x + uptoBulkEntries r
def uptoBulkEntry {H : Type} : Lit × DataW H → Nat
  | (.string bytes, d) => bytes.length + uptoBulk d + 1
  | (_, d) => uptoBulk d + 1
 end
def uptoSmall : (H : Type) → List (DataW H) → Bool := fun _ ds => decide (uptoBulkAll ds ≤ 1048576)
def OpenSpec.upto (s : _root_.Go.ChangeSpec) : _root_.Go.OpenSpec := { _root_.Go.OpenSpec.ofChange s with cond := some uptoSmall }

/-- 'laws.FnExactBodyOf', WHERE WHAT IT READS IS OF BULK AT MOST 1048576: true; the input reads as it did. -/
def fnExactBodyOfUptoRow : OpenClaim := { program := "ytnfghcflpnlbiaa", sum := "a3bd228c5a01de54c98f37732fae919fc8be47ce0febf4c2a612bd04b9767765", func := "loop.example/g00849/laws.FnExactBodyOf", spec := "fnExactBodyOf", inPlace := ["internal/abi.NoEscape", "internal/bytealg.MakeNoZero"], apart := false, narrowed := true }
def FnExactBodyOfUptoSaid : Prop := fnExactBodyOfUptoRow.holds Try.pinned (OpenSpec.upto fnExactBodyOfSpec)

/-- 'laws.FnExactRebuild', WHERE WHAT IT READS IS OF BULK AT MOST 1048576: true; the input reads as it did. -/
def fnExactRebuildUptoRow : OpenClaim := { program := "ytnfghcflpnlbiaa", sum := "a3bd228c5a01de54c98f37732fae919fc8be47ce0febf4c2a612bd04b9767765", func := "loop.example/g00849/laws.FnExactRebuild", spec := "fnExactRebuild", inPlace := ["internal/abi.NoEscape", "internal/bytealg.MakeNoZero"], apart := false, narrowed := true }
def FnExactRebuildUptoSaid : Prop := fnExactRebuildUptoRow.holds Try.pinned (OpenSpec.upto fnExactRebuildSpec)

/-- 'laws.FnExactOddShards', WHERE WHAT IT READS IS OF BULK AT MOST 1048576: true; the input reads as it did. -/
def fnExactOddShardsUptoRow : OpenClaim := { program := "ytnfghcflpnlbiaa", sum := "a3bd228c5a01de54c98f37732fae919fc8be47ce0febf4c2a612bd04b9767765", func := "loop.example/g00849/laws.FnExactOddShards", spec := "fnExactOddShards", inPlace := ["internal/abi.NoEscape", "internal/bytealg.MakeNoZero"], apart := false, narrowed := true }
def FnExactOddShardsUptoSaid : Prop := fnExactOddShardsUptoRow.holds Try.pinned (OpenSpec.upto fnExactOddShardsSpec)

/-- 'laws.FnAnyK', WHERE WHAT IT READS IS OF BULK AT MOST 1048576: true; the input reads as it did. -/
def fnAnyKUptoRow : OpenClaim := { program := "ytnfghcflpnlbiaa", sum := "a3bd228c5a01de54c98f37732fae919fc8be47ce0febf4c2a612bd04b9767765", func := "loop.example/g00849/laws.FnAnyK", spec := "fnAnyK", inPlace := ["internal/abi.NoEscape", "internal/bytealg.MakeNoZero"], apart := false, narrowed := true }
def FnAnyKUptoSaid : Prop := fnAnyKUptoRow.holds Try.pinned (OpenSpec.upto fnAnyKSpec)

/-- 'laws.FnRebuilt', WHERE WHAT IT READS IS OF BULK AT MOST 1048576: true; the input reads as it did. -/
def fnRebuiltUptoRow : OpenClaim := { program := "ytnfghcflpnlbiaa", sum := "a3bd228c5a01de54c98f37732fae919fc8be47ce0febf4c2a612bd04b9767765", func := "loop.example/g00849/laws.FnRebuilt", spec := "fnRebuilt", inPlace := ["internal/abi.NoEscape", "internal/bytealg.MakeNoZero"], apart := false, narrowed := true }
def FnRebuiltUptoSaid : Prop := fnRebuiltUptoRow.holds Try.pinned (OpenSpec.upto fnRebuiltSpec)

/-- 'laws.FnExactWideOf', WHERE WHAT IT READS IS OF BULK AT MOST 1048576: true; the input reads as it did. -/
def fnExactWideOfUptoRow : OpenClaim := { program := "ytnfghcflpnlbiaa", sum := "a3bd228c5a01de54c98f37732fae919fc8be47ce0febf4c2a612bd04b9767765", func := "loop.example/g00849/laws.FnExactWideOf", spec := "fnExactWideOf", inPlace := ["internal/abi.NoEscape", "internal/bytealg.MakeNoZero"], apart := false, narrowed := true }
def FnExactWideOfUptoSaid : Prop := fnExactWideOfUptoRow.holds Try.pinned (OpenSpec.upto fnExactWideOfSpec)

/-- 'laws.FnStripes', WHERE WHAT IT READS IS OF BULK AT MOST 1048576: true; the input reads as it did. -/
def fnStripesUptoRow : OpenClaim := { program := "ytnfghcflpnlbiaa", sum := "a3bd228c5a01de54c98f37732fae919fc8be47ce0febf4c2a612bd04b9767765", func := "loop.example/g00849/laws.FnStripes", spec := "fnStripes", inPlace := ["internal/abi.NoEscape", "internal/bytealg.MakeNoZero"], unfollowed := true, recurses := true, apart := false, narrowed := true }
def FnStripesUptoSaid : Prop := fnStripesUptoRow.holds Try.pinned (OpenSpec.upto fnStripesSpec)

/-- 'laws.FnExactWideWhole', WHERE WHAT IT READS IS OF BULK AT MOST 1048576: true; the input reads as it did. -/
def fnExactWideWholeUptoRow : OpenClaim := { program := "ytnfghcflpnlbiaa", sum := "a3bd228c5a01de54c98f37732fae919fc8be47ce0febf4c2a612bd04b9767765", func := "loop.example/g00849/laws.FnExactWideWhole", spec := "fnExactWideWhole", inPlace := ["internal/abi.NoEscape", "internal/bytealg.MakeNoZero"], unfollowed := true, recurses := true, apart := false, narrowed := true }
def FnExactWideWholeUptoSaid : Prop := fnExactWideWholeUptoRow.holds Try.pinned (OpenSpec.upto fnExactWideWholeSpec)

/-- 'laws.FnLost', WHERE WHAT IT READS IS OF BULK AT MOST 1048576: true; the input reads as it did. -/
def fnLostUptoRow : OpenClaim := { program := "ytnfghcflpnlbiaa", sum := "a3bd228c5a01de54c98f37732fae919fc8be47ce0febf4c2a612bd04b9767765", func := "loop.example/g00849/laws.FnLost", spec := "fnLost", inPlace := ["internal/abi.NoEscape", "internal/bytealg.MakeNoZero"], unfollowed := true, recurses := true, apart := false, narrowed := true }
def FnLostUptoSaid : Prop := fnLostUptoRow.holds Try.pinned (OpenSpec.upto fnLostSpec)

/-- 'laws.FnExactReadLost', WHERE WHAT IT READS IS OF BULK AT MOST 1048576: true; the input reads as it did. -/
def fnExactReadLostUptoRow : OpenClaim := { program := "ytnfghcflpnlbiaa", sum := "a3bd228c5a01de54c98f37732fae919fc8be47ce0febf4c2a612bd04b9767765", func := "loop.example/g00849/laws.FnExactReadLost", spec := "fnExactReadLost", inPlace := ["internal/abi.NoEscape", "internal/bytealg.MakeNoZero"], unfollowed := true, recurses := true, apart := false, narrowed := true }
def FnExactReadLostUptoSaid : Prop := fnExactReadLostUptoRow.holds Try.pinned (OpenSpec.upto fnExactReadLostSpec)

/-- 'laws.FnExactDeltasOf', WHERE WHAT IT READS IS OF BULK AT MOST 1048576: true; the input reads as it did. -/
def fnExactDeltasOfUptoRow : OpenClaim := { program := "ytnfghcflpnlbiaa", sum := "a3bd228c5a01de54c98f37732fae919fc8be47ce0febf4c2a612bd04b9767765", func := "loop.example/g00849/laws.FnExactDeltasOf", spec := "fnExactDeltasOf", inPlace := ["internal/abi.NoEscape", "internal/bytealg.MakeNoZero"], unfollowed := true, recurses := true, apart := false, narrowed := true }
def FnExactDeltasOfUptoSaid : Prop := fnExactDeltasOfUptoRow.holds Try.pinned (OpenSpec.upto fnExactDeltasOfSpec)

/-- 'laws.FnExactWriteWide', WHERE WHAT IT READS IS OF BULK AT MOST 1048576: true; the input reads as it did. -/
def fnExactWriteWideUptoRow : OpenClaim := { program := "ytnfghcflpnlbiaa", sum := "a3bd228c5a01de54c98f37732fae919fc8be47ce0febf4c2a612bd04b9767765", func := "loop.example/g00849/laws.FnExactWriteWide", spec := "fnExactWriteWide", inPlace := ["internal/abi.NoEscape", "internal/bytealg.MakeNoZero"], unfollowed := true, recurses := true, apart := false, narrowed := true }
def FnExactWriteWideUptoSaid : Prop := fnExactWriteWideUptoRow.holds Try.pinned (OpenSpec.upto fnExactWriteWideSpec)

/-- 'laws.FnDeltas', WHERE WHAT IT READS IS OF BULK AT MOST 1048576: true; the input reads as it did. -/
def fnDeltasUptoRow : OpenClaim := { program := "ytnfghcflpnlbiaa", sum := "a3bd228c5a01de54c98f37732fae919fc8be47ce0febf4c2a612bd04b9767765", func := "loop.example/g00849/laws.FnDeltas", spec := "fnDeltas", inPlace := ["internal/abi.NoEscape", "internal/bytealg.MakeNoZero"], unfollowed := true, recurses := true, apart := false, narrowed := true }
def FnDeltasUptoSaid : Prop := fnDeltasUptoRow.holds Try.pinned (OpenSpec.upto fnDeltasSpec)

end Rows
end Go.Proofs.Ytnfghcflpnlbiaa
