/-
  No cell of these rows narrows 'for every input' (looked for: loops, veiled, ifaces, maps, wideKeys, modest, calm, conditions, laid).
  DERIVED. THE GIVEN ROWS OF THIS SEAT. 5 by the template 'for every input the law returns true; each argument reads behind the call as it read before'; 0 by the template 'total and deterministic' (their statements: YtnhhmpoknmfmaaaTotals.lean).
  GIVEN WITH THE SEED: the statements are not yours to turn. If you find one false, say at which input.
  Laid BY PROGRAM, IN A SANDBOX (cutbox-rows.mjs): the forced cells as the released guide's own fill.sh prints them over the translation d6cdfd35c33a2cc3… (all of the seat's roots in one cut). By AI agents, Wed Nov 11 2026. No macro, syntax, notation, axiom, sorry.
-/
import Derived.Test.YtnhhmpoknmfmaaaChecked
import GoSem.Claim
import GoSem.ClaimJoined
import GoSem.ClaimMapViews
import Derived.JoinedTies
import Derived.KernelRfl
namespace Go.Proofs.Ytnhhmpoknmfmaaa
/- THE CELL 'sum', in the pinned program and in every row, IS THE sha256 OF THE DUMP (.gsa) THAT YtnhhmpoknmfmaaaProg.lean LOADS. Nothing in Lean hashes anything: it is a label: what it is worth is what the hold of that sum in a sandbox is worth. -/
noncomputable def Try.pinned : Pinned := { name := "ytnhhmpoknmfmaaa", sum := "d6cdfd35c33a2cc324a9f96fda0429844f8bfa0ba38981e8d819a8328894929c", checked := Try.checked }
namespace Rows
def none {H : Type} : Left H := { results := [], args := [] }

/-- 'laws.FnOneMap': WHATEVER THE INPUT: true; the input reads as it did. -/
def fnOneMapSpec : ChangeSpec := { name := "fnOneMap", fn := fun _ => fun
  | [d1, d2] => { results := [.lit (.bool true)], args := [d1, d2] }
  | _ => none }
def fnOneMapRow : OpenClaim := { program := "ytnhhmpoknmfmaaa", sum := "d6cdfd35c33a2cc324a9f96fda0429844f8bfa0ba38981e8d819a8328894929c", func := "loop.example/g00849/laws.FnOneMap", spec := "fnOneMap", inPlace := ["slices.overlaps[loop.example/g00849/impl.Slot]", "slices.overlaps[int64]"], unfollowed := true, recurses := true, plainKeys := false, apart := false }
def FnOneMapSaid : Prop := fnOneMapRow.holds Try.pinned (OpenSpec.ofChange fnOneMapSpec)

/-- ITS FALSE NEIGHBOUR: 'it returns false'. Refute it at one input. -/
def fnOneMapWrong : ChangeSpec := { name := "fnOneMap", fn := fun _ => fun
  | [d1, d2] => { results := [.lit (.bool false)], args := [d1, d2] }
  | _ => none }
def FnOneMapWrongFalsely : Prop := fnOneMapRow.holds Try.pinned (OpenSpec.ofChange fnOneMapWrong)

/-- 'laws.FnMapStays': WHATEVER THE INPUT: true; the input reads as it did. -/
def fnMapStaysSpec : ChangeSpec := { name := "fnMapStays", fn := fun _ => fun
  | [d1, d2] => { results := [.lit (.bool true)], args := [d1, d2] }
  | _ => none }
def fnMapStaysRow : OpenClaim := { program := "ytnhhmpoknmfmaaa", sum := "d6cdfd35c33a2cc324a9f96fda0429844f8bfa0ba38981e8d819a8328894929c", func := "loop.example/g00849/laws.FnMapStays", spec := "fnMapStays", inPlace := ["slices.overlaps[loop.example/g00849/impl.Slot]", "slices.overlaps[int64]"], unfollowed := true, recurses := true, plainKeys := false, apart := false }
def FnMapStaysSaid : Prop := fnMapStaysRow.holds Try.pinned (OpenSpec.ofChange fnMapStaysSpec)

/-- ITS FALSE NEIGHBOUR: 'it returns false'. Refute it at one input. -/
def fnMapStaysWrong : ChangeSpec := { name := "fnMapStays", fn := fun _ => fun
  | [d1, d2] => { results := [.lit (.bool false)], args := [d1, d2] }
  | _ => none }
def FnMapStaysWrongFalsely : Prop := fnMapStaysRow.holds Try.pinned (OpenSpec.ofChange fnMapStaysWrong)

/-- 'laws.FnMonLive': WHATEVER THE INPUT: true; the input reads as it did. -/
def fnMonLiveSpec : ChangeSpec := { name := "fnMonLive", fn := fun _ => fun
  | [d1, d2] => { results := [.lit (.bool true)], args := [d1, d2] }
  | _ => none }
def fnMonLiveRow : OpenClaim := { program := "ytnhhmpoknmfmaaa", sum := "d6cdfd35c33a2cc324a9f96fda0429844f8bfa0ba38981e8d819a8328894929c", func := "loop.example/g00849/laws.FnMonLive", spec := "fnMonLive", inPlace := ["slices.overlaps[loop.example/g00849/impl.Slot]", "slices.overlaps[int64]"], unfollowed := true, recurses := true, plainKeys := false, apart := false }
def FnMonLiveSaid : Prop := fnMonLiveRow.holds Try.pinned (OpenSpec.ofChange fnMonLiveSpec)

/-- ITS FALSE NEIGHBOUR: 'it returns false'. Refute it at one input. -/
def fnMonLiveWrong : ChangeSpec := { name := "fnMonLive", fn := fun _ => fun
  | [d1, d2] => { results := [.lit (.bool false)], args := [d1, d2] }
  | _ => none }
def FnMonLiveWrongFalsely : Prop := fnMonLiveRow.holds Try.pinned (OpenSpec.ofChange fnMonLiveWrong)

/-- 'laws.FnExactMonCrash': WHATEVER THE INPUT: true; the input reads as it did. -/
def fnExactMonCrashSpec : ChangeSpec := { name := "fnExactMonCrash", fn := fun _ => fun
  | [d] => { results := [.lit (.bool true)], args := [d] }
  | _ => none }
def fnExactMonCrashRow : OpenClaim := { program := "ytnhhmpoknmfmaaa", sum := "d6cdfd35c33a2cc324a9f96fda0429844f8bfa0ba38981e8d819a8328894929c", func := "loop.example/g00849/laws.FnExactMonCrash", spec := "fnExactMonCrash", unfollowed := true, recurses := true, plainKeys := false, apart := false }
def FnExactMonCrashSaid : Prop := fnExactMonCrashRow.holds Try.pinned (OpenSpec.ofChange fnExactMonCrashSpec)

/-- ITS FALSE NEIGHBOUR: 'it returns false'. Refute it at one input. -/
def fnExactMonCrashWrong : ChangeSpec := { name := "fnExactMonCrash", fn := fun _ => fun
  | [d] => { results := [.lit (.bool false)], args := [d] }
  | _ => none }
def FnExactMonCrashWrongFalsely : Prop := fnExactMonCrashRow.holds Try.pinned (OpenSpec.ofChange fnExactMonCrashWrong)

/-- 'laws.FnExactPropose': WHATEVER THE INPUT: true; the input reads as it did. -/
def fnExactProposeSpec : ChangeSpec := { name := "fnExactPropose", fn := fun _ => fun
  | [d1, d2, d3] => { results := [.lit (.bool true)], args := [d1, d2, d3] }
  | _ => none }
def fnExactProposeRow : OpenClaim := { program := "ytnhhmpoknmfmaaa", sum := "d6cdfd35c33a2cc324a9f96fda0429844f8bfa0ba38981e8d819a8328894929c", func := "loop.example/g00849/laws.FnExactPropose", spec := "fnExactPropose", inPlace := ["slices.overlaps[loop.example/g00849/impl.Slot]"], unfollowed := true, recurses := true, plainKeys := false, apart := false }
def FnExactProposeSaid : Prop := fnExactProposeRow.holds Try.pinned (OpenSpec.ofChange fnExactProposeSpec)

/-- ITS FALSE NEIGHBOUR: 'it returns false'. Refute it at one input. -/
def fnExactProposeWrong : ChangeSpec := { name := "fnExactPropose", fn := fun _ => fun
  | [d1, d2, d3] => { results := [.lit (.bool false)], args := [d1, d2, d3] }
  | _ => none }
def FnExactProposeWrongFalsely : Prop := fnExactProposeRow.holds Try.pinned (OpenSpec.ofChange fnExactProposeWrong)

/- THE SECOND FORM. 'bulk': how many values and letters a reading holds, each counted each time it is reached (what is shared counts as often as it is met; a slice's spare places count too). A statement '..UptoSaid' is the law's where the arguments, and the package variables that the reading takes, are together of bulk at most 1048576: NARROWER than '..Said'. Prove '..Said' where nothing that the law and all that it calls make is longer than what came in: it says more and counts as full. Else prove '..UptoSaid'. A law counts once. -/
mutual
def uptoBulk {H : Type} : DataW H → Nat
  | .lit (.string bytes) => bytes.length + 1
  | .lit _ => 1
  | .nil => 1
  | .ptr d => uptoBulk d + 1
  | .slice elems spare => uptoBulkAll elems + uptoBulkAll spare + 1
  | .agg parts => uptoBulkAll parts + 1
  | .iface _ d => uptoBulk d + 1
  | .map entries => uptoBulkEntries entries + 1
  | .held _ => 1
def uptoBulkAll {H : Type} : List (DataW H) → Nat
  | [] => 0
  | d :: r => uptoBulk d + uptoBulkAll r
def uptoBulkEntries {H : Type} : List (Lit × DataW H) → Nat
  | [] => 0
  | x :: r => uptoBulkEntry x + uptoBulkEntries r
def uptoBulkEntry {H : Type} : Lit × DataW H → Nat
  | (.string bytes, d) => bytes.length + uptoBulk d + 1
  | (_, d) => uptoBulk d + 1
 end
def uptoSmall : (H : Type) → List (DataW H) → Bool := fun _ ds => decide (uptoBulkAll ds ≤ 1048576)
def OpenSpec.upto (s : _root_.Go.ChangeSpec) : _root_.Go.OpenSpec := { _root_.Go.OpenSpec.ofChange s with cond := some uptoSmall }

/-- 'laws.FnOneMap', WHERE WHAT IT READS IS OF BULK AT MOST 1048576: true; the input reads as it did. -/
def fnOneMapUptoRow : OpenClaim := { program := "ytnhhmpoknmfmaaa", sum := "d6cdfd35c33a2cc324a9f96fda0429844f8bfa0ba38981e8d819a8328894929c", func := "loop.example/g00849/laws.FnOneMap", spec := "fnOneMap", inPlace := ["slices.overlaps[loop.example/g00849/impl.Slot]", "slices.overlaps[int64]"], unfollowed := true, recurses := true, plainKeys := false, apart := false, narrowed := true }
def FnOneMapUptoSaid : Prop := fnOneMapUptoRow.holds Try.pinned (OpenSpec.upto fnOneMapSpec)

/-- 'laws.FnMapStays', WHERE WHAT IT READS IS OF BULK AT MOST 1048576: true; the input reads as it did. -/
def fnMapStaysUptoRow : OpenClaim := { program := "ytnhhmpoknmfmaaa", sum := "d6cdfd35c33a2cc324a9f96fda0429844f8bfa0ba38981e8d819a8328894929c", func := "loop.example/g00849/laws.FnMapStays", spec := "fnMapStays", inPlace := ["slices.overlaps[loop.example/g00849/impl.Slot]", "slices.overlaps[int64]"], unfollowed := true, recurses := true, plainKeys := false, apart := false, narrowed := true }
def FnMapStaysUptoSaid : Prop := fnMapStaysUptoRow.holds Try.pinned (OpenSpec.upto fnMapStaysSpec)

/-- 'laws.FnMonLive', WHERE WHAT IT READS IS OF BULK AT MOST 1048576: true; the input reads as it did. -/
def fnMonLiveUptoRow : OpenClaim := { program := "ytnhhmpoknmfmaaa", sum := "d6cdfd35c33a2cc324a9f96fda0429844f8bfa0ba38981e8d819a8328894929c", func := "loop.example/g00849/laws.FnMonLive", spec := "fnMonLive", inPlace := ["slices.overlaps[loop.example/g00849/impl.Slot]", "slices.overlaps[int64]"], unfollowed := true, recurses := true, plainKeys := false, apart := false, narrowed := true }
def FnMonLiveUptoSaid : Prop := fnMonLiveUptoRow.holds Try.pinned (OpenSpec.upto fnMonLiveSpec)

/-- 'laws.FnExactMonCrash', WHERE WHAT IT READS IS OF BULK AT MOST 1048576: true; the input reads as it did. -/
def fnExactMonCrashUptoRow : OpenClaim := { program := "ytnhhmpoknmfmaaa", sum := "d6cdfd35c33a2cc324a9f96fda0429844f8bfa0ba38981e8d819a8328894929c", func := "loop.example/g00849/laws.FnExactMonCrash", spec := "fnExactMonCrash", unfollowed := true, recurses := true, plainKeys := false, apart := false, narrowed := true }
def FnExactMonCrashUptoSaid : Prop := fnExactMonCrashUptoRow.holds Try.pinned (OpenSpec.upto fnExactMonCrashSpec)

/-- 'laws.FnExactPropose', WHERE WHAT IT READS IS OF BULK AT MOST 1048576: true; the input reads as it did. -/
def fnExactProposeUptoRow : OpenClaim := { program := "ytnhhmpoknmfmaaa", sum := "d6cdfd35c33a2cc324a9f96fda0429844f8bfa0ba38981e8d819a8328894929c", func := "loop.example/g00849/laws.FnExactPropose", spec := "fnExactPropose", inPlace := ["slices.overlaps[loop.example/g00849/impl.Slot]"], unfollowed := true, recurses := true, plainKeys := false, apart := false, narrowed := true }
def FnExactProposeUptoSaid : Prop := fnExactProposeUptoRow.holds Try.pinned (OpenSpec.upto fnExactProposeSpec)

end Rows
end Go.Proofs.Ytnhhmpoknmfmaaa
