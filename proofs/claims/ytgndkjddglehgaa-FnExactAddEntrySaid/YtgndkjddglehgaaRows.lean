/-
  No cell of these rows narrows 'for every input' (looked for: loops, veiled, ifaces, maps, wideKeys, modest, calm, conditions, laid).
  DERIVED. THE GIVEN ROWS OF THIS SEAT. 2 by the template 'for every input the law returns true; each argument reads behind the call as it read before'; 0 by the template 'total and deterministic' (their statements: YtgndkjddglehgaaTotals.lean).
  GIVEN WITH THE SEED: the statements are not yours to turn. If you find one false, say at which input.
  Laid BY PROGRAM, IN A SANDBOX (cutbox-rows.mjs): the forced cells as the released guide's own fill.sh prints them over the translation 384b3ce69903552c… (all of the seat's roots in one cut). By AI agents, Wed Nov 11 2026. No macro, syntax, notation, axiom, sorry.
-/
import Derived.Test.YtgndkjddglehgaaChecked
import GoSem.Claim
import GoSem.ClaimJoined
import GoSem.ClaimMapViews
import Derived.JoinedTies
import Derived.KernelRfl
namespace Go.Proofs.Ytgndkjddglehgaa
/- THE CELL 'sum', in the pinned program and in every row, IS THE sha256 OF THE DUMP (.gsa) THAT YtgndkjddglehgaaProg.lean LOADS. Nothing in Lean hashes anything: it is a label: what it is worth is what the hold of that sum in a sandbox is worth. -/
noncomputable def Try.pinned : Pinned := { name := "ytgndkjddglehgaa", sum := "384b3ce69903552cb67fb251e86279b8a9b75ded6aa690a605088fb01430dc09", checked := Try.checked }
namespace Rows
def none {H : Type} : Left H := { results := [], args := [] }

/-- 'laws.FnExactTakeLog': WHATEVER THE INPUT: true; the input reads as it did. -/
def fnExactTakeLogSpec : ChangeSpec := { name := "fnExactTakeLog", fn := fun _ => fun
  | [d1, d2] => { results := [.lit (.bool true)], args := [d1, d2] }
  | _ => none }
def fnExactTakeLogRow : OpenClaim := { program := "ytgndkjddglehgaa", sum := "384b3ce69903552cb67fb251e86279b8a9b75ded6aa690a605088fb01430dc09", func := "loop.example/g00849/laws.FnExactTakeLog", spec := "fnExactTakeLog", inPlace := ["internal/bytealg.abigen_runtime_cmpstring"], apart := false }
def FnExactTakeLogSaid : Prop := fnExactTakeLogRow.holds Try.pinned (OpenSpec.ofChange fnExactTakeLogSpec)

/-- ITS FALSE NEIGHBOUR: 'it returns false'. Refute it at one input. -/
def fnExactTakeLogWrong : ChangeSpec := { name := "fnExactTakeLog", fn := fun _ => fun
  | [d1, d2] => { results := [.lit (.bool false)], args := [d1, d2] }
  | _ => none }
def FnExactTakeLogWrongFalsely : Prop := fnExactTakeLogRow.holds Try.pinned (OpenSpec.ofChange fnExactTakeLogWrong)

/-- 'laws.FnExactAddEntry': WHATEVER THE INPUT: true; the input reads as it did. -/
def fnExactAddEntrySpec : ChangeSpec := { name := "fnExactAddEntry", fn := fun _ => fun
  | [d1, d2] => { results := [.lit (.bool true)], args := [d1, d2] }
  | _ => none }
def fnExactAddEntryRow : OpenClaim := { program := "ytgndkjddglehgaa", sum := "384b3ce69903552cb67fb251e86279b8a9b75ded6aa690a605088fb01430dc09", func := "loop.example/g00849/laws.FnExactAddEntry", spec := "fnExactAddEntry", inPlace := ["internal/bytealg.abigen_runtime_cmpstring"], apart := false }
def FnExactAddEntrySaid : Prop := fnExactAddEntryRow.holds Try.pinned (OpenSpec.ofChange fnExactAddEntrySpec)

/-- ITS FALSE NEIGHBOUR: 'it returns false'. Refute it at one input. -/
def fnExactAddEntryWrong : ChangeSpec := { name := "fnExactAddEntry", fn := fun _ => fun
  | [d1, d2] => { results := [.lit (.bool false)], args := [d1, d2] }
  | _ => none }
def FnExactAddEntryWrongFalsely : Prop := fnExactAddEntryRow.holds Try.pinned (OpenSpec.ofChange fnExactAddEntryWrong)

/- THE SECOND FORM. 'bulk': how many values and letters a reading holds, each counted each time it is reached (what is shared counts as often as it is met; a slice's spare places count too). A statement '..UptoSaid' is the law's where the arguments, and the package variables that the reading takes, are together of bulk at most 1048576: NARROWER than '..Said'. Prove '..Said' where nothing that the law and all that it calls make is longer than what came in: it says more and counts as full. Else prove '..UptoSaid'. A law counts once. -/
mutual
def uptoBulk {H : Type} : DataW H → Nat
  | .lit (.string bytes) => bytes.length + 1
  | .lit _ => 1
  | .nil => 1
  | .ptr d => uptoBulk d + 1
  | .slice elems spare => uptoBulkAll elems + uptoBulkAll spare + 1
  | .agg parts => uptoBulkAll parts + 1
  | .iface _ d => uptoBulk d + 1
  | .map entries => uptoBulkEntries entries + 1
  | .held _ => 1
def uptoBulkAll {H : Type} : List (DataW H) → Nat
  | [] => 0
  | d :: r => uptoBulk d + uptoBulkAll r
def uptoBulkEntries {H : Type} : List (Lit × DataW H) → Nat
  | [] => 0
  | x :: r => uptoBulkEntry x + uptoBulkEntries r
def uptoBulkEntry {H : Type} : Lit × DataW H → Nat
  | (.string bytes, d) => bytes.length + uptoBulk d + 1
  | (_, d) => uptoBulk d + 1
 end
def uptoSmall : (H : Type) → List (DataW H) → Bool := fun _ ds => decide (uptoBulkAll ds ≤ 1048576)
def OpenSpec.upto (s : _root_.Go.ChangeSpec) : _root_.Go.OpenSpec := { _root_.Go.OpenSpec.ofChange s with cond := some uptoSmall }

/-- 'laws.FnExactTakeLog', WHERE WHAT IT READS IS OF BULK AT MOST 1048576: true; the input reads as it did. -/
def fnExactTakeLogUptoRow : OpenClaim := { program := "ytgndkjddglehgaa", sum := "384b3ce69903552cb67fb251e86279b8a9b75ded6aa690a605088fb01430dc09", func := "loop.example/g00849/laws.FnExactTakeLog", spec := "fnExactTakeLog", inPlace := ["internal/bytealg.abigen_runtime_cmpstring"], apart := false, narrowed := true }
def FnExactTakeLogUptoSaid : Prop := fnExactTakeLogUptoRow.holds Try.pinned (OpenSpec.upto fnExactTakeLogSpec)

/-- 'laws.FnExactAddEntry', WHERE WHAT IT READS IS OF BULK AT MOST 1048576: true; the input reads as it did. -/
def fnExactAddEntryUptoRow : OpenClaim := { program := "ytgndkjddglehgaa", sum := "384b3ce69903552cb67fb251e86279b8a9b75ded6aa690a605088fb01430dc09", func := "loop.example/g00849/laws.FnExactAddEntry", spec := "fnExactAddEntry", inPlace := ["internal/bytealg.abigen_runtime_cmpstring"], apart := false, narrowed := true }
def FnExactAddEntryUptoSaid : Prop := fnExactAddEntryUptoRow.holds Try.pinned (OpenSpec.upto fnExactAddEntrySpec)

end Rows
end Go.Proofs.Ytgndkjddglehgaa
