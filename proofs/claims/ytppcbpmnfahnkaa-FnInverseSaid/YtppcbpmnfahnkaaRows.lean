/-
  No cell of these rows narrows 'for every input' (looked for: loops, veiled, ifaces, maps, wideKeys, modest, calm, conditions, laid).
  DERIVED. THE GIVEN ROWS OF THIS SEAT. 6 by the template 'for every input the law returns true; each argument reads behind the call as it read before'; 0 by the template 'total and deterministic' (their statements: YtppcbpmnfahnkaaTotals.lean).
  GIVEN WITH THE SEED: the statements are not yours to turn. If you find one false, say at which input.
  Laid BY PROGRAM, IN A SANDBOX (cutbox-rows.mjs): the forced cells as the released guide's own fill.sh prints them over the translation c81bb6c16aab0226… (all of the seat's roots in one cut). By AI agents, Wed Nov 11 2026. No macro, syntax, notation, axiom, sorry.
-/
import Derived.Test.YtppcbpmnfahnkaaChecked
import GoSem.Claim
import GoSem.ClaimJoined
import GoSem.ClaimMapViews
import Derived.JoinedTies
import Derived.KernelRfl
namespace Go.Proofs.Ytppcbpmnfahnkaa
/- THE CELL 'sum', in the pinned program and in every row, IS THE sha256 OF THE DUMP (.gsa) THAT YtppcbpmnfahnkaaProg.lean LOADS. Nothing in Lean hashes anything: it is a label: what it is worth is what the hold of that sum in a sandbox is worth. -/
noncomputable def Try.pinned : Pinned := { name := "ytppcbpmnfahnkaa", sum := "c81bb6c16aab0226d16550f6376d30902707b0a25fea9b70aaea2ce0a130bedd", checked := Try.checked }
namespace Rows
def none {H : Type} : Left H := { results := [], args := [] }

/-- 'laws.FnExactCodeMatrix': WHATEVER THE INPUT: true; the input reads as it did. -/
def fnExactCodeMatrixSpec : ChangeSpec := { name := "fnExactCodeMatrix", fn := fun _ => fun
  | [d1, d2] => { results := [.lit (.bool true)], args := [d1, d2] }
  | _ => none }
def fnExactCodeMatrixRow : OpenClaim := { program := "ytppcbpmnfahnkaa", sum := "c81bb6c16aab0226d16550f6376d30902707b0a25fea9b70aaea2ce0a130bedd", func := "loop.example/g00849/laws.FnExactCodeMatrix", spec := "fnExactCodeMatrix", apart := false }
def FnExactCodeMatrixSaid : Prop := fnExactCodeMatrixRow.holds Try.pinned (OpenSpec.ofChange fnExactCodeMatrixSpec)

/-- ITS FALSE NEIGHBOUR: 'it returns false'. Refute it at one input. -/
def fnExactCodeMatrixWrong : ChangeSpec := { name := "fnExactCodeMatrix", fn := fun _ => fun
  | [d1, d2] => { results := [.lit (.bool false)], args := [d1, d2] }
  | _ => none }
def FnExactCodeMatrixWrongFalsely : Prop := fnExactCodeMatrixRow.holds Try.pinned (OpenSpec.ofChange fnExactCodeMatrixWrong)

/-- 'laws.FnExactMatMul': WHATEVER THE INPUT: true; the input reads as it did. -/
def fnExactMatMulSpec : ChangeSpec := { name := "fnExactMatMul", fn := fun _ => fun
  | [d1, d2] => { results := [.lit (.bool true)], args := [d1, d2] }
  | _ => none }
def fnExactMatMulRow : OpenClaim := { program := "ytppcbpmnfahnkaa", sum := "c81bb6c16aab0226d16550f6376d30902707b0a25fea9b70aaea2ce0a130bedd", func := "loop.example/g00849/laws.FnExactMatMul", spec := "fnExactMatMul", unfollowed := true, recurses := true, apart := false }
def FnExactMatMulSaid : Prop := fnExactMatMulRow.holds Try.pinned (OpenSpec.ofChange fnExactMatMulSpec)

/-- ITS FALSE NEIGHBOUR: 'it returns false'. Refute it at one input. -/
def fnExactMatMulWrong : ChangeSpec := { name := "fnExactMatMul", fn := fun _ => fun
  | [d1, d2] => { results := [.lit (.bool false)], args := [d1, d2] }
  | _ => none }
def FnExactMatMulWrongFalsely : Prop := fnExactMatMulRow.holds Try.pinned (OpenSpec.ofChange fnExactMatMulWrong)

/-- 'laws.FnAnyRows': WHATEVER THE INPUT: true; the input reads as it did. -/
def fnAnyRowsSpec : ChangeSpec := { name := "fnAnyRows", fn := fun _ => fun
  | [d] => { results := [.lit (.bool true)], args := [d] }
  | _ => none }
def fnAnyRowsRow : OpenClaim := { program := "ytppcbpmnfahnkaa", sum := "c81bb6c16aab0226d16550f6376d30902707b0a25fea9b70aaea2ce0a130bedd", func := "loop.example/g00849/laws.FnAnyRows", spec := "fnAnyRows", unfollowed := true, recurses := true, apart := false }
def FnAnyRowsSaid : Prop := fnAnyRowsRow.holds Try.pinned (OpenSpec.ofChange fnAnyRowsSpec)

/-- ITS FALSE NEIGHBOUR: 'it returns false'. Refute it at one input. -/
def fnAnyRowsWrong : ChangeSpec := { name := "fnAnyRows", fn := fun _ => fun
  | [d] => { results := [.lit (.bool false)], args := [d] }
  | _ => none }
def FnAnyRowsWrongFalsely : Prop := fnAnyRowsRow.holds Try.pinned (OpenSpec.ofChange fnAnyRowsWrong)

/-- 'laws.FnCopies': WHATEVER THE INPUT: true; the input reads as it did. -/
def fnCopiesSpec : ChangeSpec := { name := "fnCopies", fn := fun _ => fun
  | [d] => { results := [.lit (.bool true)], args := [d] }
  | _ => none }
def fnCopiesRow : OpenClaim := { program := "ytppcbpmnfahnkaa", sum := "c81bb6c16aab0226d16550f6376d30902707b0a25fea9b70aaea2ce0a130bedd", func := "loop.example/g00849/laws.FnCopies", spec := "fnCopies", inPlace := ["internal/abi.NoEscape", "internal/bytealg.MakeNoZero"], apart := false }
def FnCopiesSaid : Prop := fnCopiesRow.holds Try.pinned (OpenSpec.ofChange fnCopiesSpec)

/-- ITS FALSE NEIGHBOUR: 'it returns false'. Refute it at one input. -/
def fnCopiesWrong : ChangeSpec := { name := "fnCopies", fn := fun _ => fun
  | [d] => { results := [.lit (.bool false)], args := [d] }
  | _ => none }
def FnCopiesWrongFalsely : Prop := fnCopiesRow.holds Try.pinned (OpenSpec.ofChange fnCopiesWrong)

/-- 'laws.FnInverse': WHATEVER THE INPUT: true; the input reads as it did. -/
def fnInverseSpec : ChangeSpec := { name := "fnInverse", fn := fun _ => fun
  | [d] => { results := [.lit (.bool true)], args := [d] }
  | _ => none }
def fnInverseRow : OpenClaim := { program := "ytppcbpmnfahnkaa", sum := "c81bb6c16aab0226d16550f6376d30902707b0a25fea9b70aaea2ce0a130bedd", func := "loop.example/g00849/laws.FnInverse", spec := "fnInverse", unfollowed := true, recurses := true, apart := false }
def FnInverseSaid : Prop := fnInverseRow.holds Try.pinned (OpenSpec.ofChange fnInverseSpec)

/-- ITS FALSE NEIGHBOUR: 'it returns false'. Refute it at one input. -/
def fnInverseWrong : ChangeSpec := { name := "fnInverse", fn := fun _ => fun
  | [d] => { results := [.lit (.bool false)], args := [d] }
  | _ => none }
def FnInverseWrongFalsely : Prop := fnInverseRow.holds Try.pinned (OpenSpec.ofChange fnInverseWrong)

/-- 'laws.FnExactMatInv': WHATEVER THE INPUT: true; the input reads as it did. -/
def fnExactMatInvSpec : ChangeSpec := { name := "fnExactMatInv", fn := fun _ => fun
  | [d] => { results := [.lit (.bool true)], args := [d] }
  | _ => none }
def fnExactMatInvRow : OpenClaim := { program := "ytppcbpmnfahnkaa", sum := "c81bb6c16aab0226d16550f6376d30902707b0a25fea9b70aaea2ce0a130bedd", func := "loop.example/g00849/laws.FnExactMatInv", spec := "fnExactMatInv", unfollowed := true, recurses := true, apart := false }
def FnExactMatInvSaid : Prop := fnExactMatInvRow.holds Try.pinned (OpenSpec.ofChange fnExactMatInvSpec)

/-- ITS FALSE NEIGHBOUR: 'it returns false'. Refute it at one input. -/
def fnExactMatInvWrong : ChangeSpec := { name := "fnExactMatInv", fn := fun _ => fun
  | [d] => { results := [.lit (.bool false)], args := [d] }
  | _ => none }
def FnExactMatInvWrongFalsely : Prop := fnExactMatInvRow.holds Try.pinned (OpenSpec.ofChange fnExactMatInvWrong)

/- THE SECOND FORM. 'bulk': how many values and letters a reading holds, each counted each time it is reached (what is shared counts as often as it is met; a slice's spare places count too). A statement '..UptoSaid' is the law's where the arguments, and the package variables that the reading takes, are together of bulk at most 1048576: NARROWER than '..Said'. Prove '..Said' where nothing that the law and all that it calls make is longer than what came in: it says more and counts as full. Else prove '..UptoSaid'. A law counts once. -/
mutual
def uptoBulk {H : Type} : DataW H → Nat
  | .lit (.string bytes) => bytes.length + 1
  | .lit _ => 1
  | .nil => 1
  | .ptr d => uptoBulk d + 1
  | .slice elems spare => uptoBulkAll elems + uptoBulkAll spare + 1
  | .agg parts => uptoBulkAll parts + 1
  | .iface _ d => uptoBulk d + 1
  | .map entries => uptoBulkEntries entries + 1
  | .held _ => 1
def uptoBulkAll {H : Type} : List (DataW H) → Nat
  | [] => 0
  | d :: r => uptoBulk d + uptoBulkAll r
def uptoBulkEntries {H : Type} : List (Lit × DataW H) → Nat
  | [] => 0
  | x :: r => uptoBulkEntry x + uptoBulkEntries r
def uptoBulkEntry {H : Type} : Lit × DataW H → Nat
  | (.string bytes, d) => bytes.length + uptoBulk d + 1
  | (_, d) => uptoBulk d + 1
 end
def uptoSmall : (H : Type) → List (DataW H) → Bool := fun _ ds => decide (uptoBulkAll ds ≤ 1048576)
def OpenSpec.upto (s : _root_.Go.ChangeSpec) : _root_.Go.OpenSpec := { _root_.Go.OpenSpec.ofChange s with cond := some uptoSmall }

/-- 'laws.FnExactCodeMatrix', WHERE WHAT IT READS IS OF BULK AT MOST 1048576: true; the input reads as it did. -/
def fnExactCodeMatrixUptoRow : OpenClaim := { program := "ytppcbpmnfahnkaa", sum := "c81bb6c16aab0226d16550f6376d30902707b0a25fea9b70aaea2ce0a130bedd", func := "loop.example/g00849/laws.FnExactCodeMatrix", spec := "fnExactCodeMatrix", apart := false, narrowed := true }
def FnExactCodeMatrixUptoSaid : Prop := fnExactCodeMatrixUptoRow.holds Try.pinned (OpenSpec.upto fnExactCodeMatrixSpec)

/-- 'laws.FnExactMatMul', WHERE WHAT IT READS IS OF BULK AT MOST 1048576: true; the input reads as it did. -/
def fnExactMatMulUptoRow : OpenClaim := { program := "ytppcbpmnfahnkaa", sum := "c81bb6c16aab0226d16550f6376d30902707b0a25fea9b70aaea2ce0a130bedd", func := "loop.example/g00849/laws.FnExactMatMul", spec := "fnExactMatMul", unfollowed := true, recurses := true, apart := false, narrowed := true }
def FnExactMatMulUptoSaid : Prop := fnExactMatMulUptoRow.holds Try.pinned (OpenSpec.upto fnExactMatMulSpec)

/-- 'laws.FnAnyRows', WHERE WHAT IT READS IS OF BULK AT MOST 1048576: true; the input reads as it did. -/
def fnAnyRowsUptoRow : OpenClaim := { program := "ytppcbpmnfahnkaa", sum := "c81bb6c16aab0226d16550f6376d30902707b0a25fea9b70aaea2ce0a130bedd", func := "loop.example/g00849/laws.FnAnyRows", spec := "fnAnyRows", unfollowed := true, recurses := true, apart := false, narrowed := true }
def FnAnyRowsUptoSaid : Prop := fnAnyRowsUptoRow.holds Try.pinned (OpenSpec.upto fnAnyRowsSpec)

/-- 'laws.FnCopies', WHERE WHAT IT READS IS OF BULK AT MOST 1048576: true; the input reads as it did. -/
def fnCopiesUptoRow : OpenClaim := { program := "ytppcbpmnfahnkaa", sum := "c81bb6c16aab0226d16550f6376d30902707b0a25fea9b70aaea2ce0a130bedd", func := "loop.example/g00849/laws.FnCopies", spec := "fnCopies", inPlace := ["internal/abi.NoEscape", "internal/bytealg.MakeNoZero"], apart := false, narrowed := true }
def FnCopiesUptoSaid : Prop := fnCopiesUptoRow.holds Try.pinned (OpenSpec.upto fnCopiesSpec)

/-- 'laws.FnInverse', WHERE WHAT IT READS IS OF BULK AT MOST 1048576: true; the input reads as it did. -/
def fnInverseUptoRow : OpenClaim := { program := "ytppcbpmnfahnkaa", sum := "c81bb6c16aab0226d16550f6376d30902707b0a25fea9b70aaea2ce0a130bedd", func := "loop.example/g00849/laws.FnInverse", spec := "fnInverse", unfollowed := true, recurses := true, apart := false, narrowed := true }
def FnInverseUptoSaid : Prop := fnInverseUptoRow.holds Try.pinned (OpenSpec.upto fnInverseSpec)

/-- 'laws.FnExactMatInv', WHERE WHAT IT READS IS OF BULK AT MOST 1048576: true; the input reads as it did. -/
def fnExactMatInvUptoRow : OpenClaim := { program := "ytppcbpmnfahnkaa", sum := "c81bb6c16aab0226d16550f6376d30902707b0a25fea9b70aaea2ce0a130bedd", func := "loop.example/g00849/laws.FnExactMatInv", spec := "fnExactMatInv", unfollowed := true, recurses := true, apart := false, narrowed := true }
def FnExactMatInvUptoSaid : Prop := fnExactMatInvUptoRow.holds Try.pinned (OpenSpec.upto fnExactMatInvSpec)

end Rows
end Go.Proofs.Ytppcbpmnfahnkaa
