/-
  No cell of these rows narrows 'for every input' (looked for: loops, veiled, ifaces, maps, wideKeys, modest, calm, conditions, laid).
  DERIVED. THE GIVEN ROWS OF THIS SEAT. 9 by the template 'for every input the law returns true; each argument reads behind the call as it read before'; 0 by the template 'total and deterministic' (their statements: YtiabjkihebhfkaaGreatTotals.lean).
  GIVEN WITH THE SEED: the statements are not yours to turn. If you find one false, say at which input.
  Laid BY PROGRAM, IN A SANDBOX (cutbox-rows.mjs): the forced cells as the released guide's own fill.sh prints them over the translation f052269bbb80e711… (all of the seat's roots in one cut). By AI agents, Wed Nov 11 2026. No macro, syntax, notation, axiom, sorry.
-/
import Derived.Test.YtiabjkihebhfkaaGreatChecked
import GoSem.Claim
import GoSem.ClaimJoined
import GoSem.ClaimMapViews
import Derived.JoinedTies
import Derived.KernelRfl
namespace Go.Proofs.YtiabjkihebhfkaaGreat
/- THE CELL 'sum', in the pinned program and in every row, IS THE sha256 OF THE DUMP (.gsa) THAT YtiabjkihebhfkaaGreatProg.lean LOADS. Nothing in Lean hashes anything: it is a label: what it is worth is what the hold of that sum in a sandbox is worth. -/
noncomputable def Tryz.pinned : Pinned := { name := "ytiabjkihebhfkaagreat", sum := "f052269bbb80e71177ad0633e3492f01905b7141b3d183a22c24a761e623dc02", checked := Tryz.checked }
namespace Rows
def none {H : Type} : Left H := { results := [], args := [] }

/-- 'laws.FnExactDropChunks': WHATEVER THE INPUT: true; the input reads as it did. -/
def fnExactDropChunksSpec : ChangeSpec := { name := "fnExactDropChunks", fn := fun _ => fun
  | [d1, d2] => { results := [.lit (.bool true)], args := [d1, d2] }
  | _ => none }
def fnExactDropChunksRow : OpenClaim := { program := "ytiabjkihebhfkaagreat", sum := "f052269bbb80e71177ad0633e3492f01905b7141b3d183a22c24a761e623dc02", func := "loop.example/g00849/laws.FnExactDropChunks", spec := "fnExactDropChunks", inPlace := ["internal/bytealg.abigen_runtime_cmpstring"], unfollowed := true, recurses := true, apart := false }
def FnExactDropChunksSaid : Prop := fnExactDropChunksRow.holds Tryz.pinned (OpenSpec.ofChange fnExactDropChunksSpec)

/-- ITS FALSE NEIGHBOUR: 'it returns false'. Refute it at one input. -/
def fnExactDropChunksWrong : ChangeSpec := { name := "fnExactDropChunks", fn := fun _ => fun
  | [d1, d2] => { results := [.lit (.bool false)], args := [d1, d2] }
  | _ => none }
def FnExactDropChunksWrongFalsely : Prop := fnExactDropChunksRow.holds Tryz.pinned (OpenSpec.ofChange fnExactDropChunksWrong)

/-- 'laws.FnExactCutLog': WHATEVER THE INPUT: true; the input reads as it did. -/
def fnExactCutLogSpec : ChangeSpec := { name := "fnExactCutLog", fn := fun _ => fun
  | [d1, d2] => { results := [.lit (.bool true)], args := [d1, d2] }
  | _ => none }
def fnExactCutLogRow : OpenClaim := { program := "ytiabjkihebhfkaagreat", sum := "f052269bbb80e71177ad0633e3492f01905b7141b3d183a22c24a761e623dc02", func := "loop.example/g00849/laws.FnExactCutLog", spec := "fnExactCutLog", inPlace := ["internal/bytealg.abigen_runtime_cmpstring"], unfollowed := true, recurses := true, apart := false }
def FnExactCutLogSaid : Prop := fnExactCutLogRow.holds Tryz.pinned (OpenSpec.ofChange fnExactCutLogSpec)

/-- ITS FALSE NEIGHBOUR: 'it returns false'. Refute it at one input. -/
def fnExactCutLogWrong : ChangeSpec := { name := "fnExactCutLog", fn := fun _ => fun
  | [d1, d2] => { results := [.lit (.bool false)], args := [d1, d2] }
  | _ => none }
def FnExactCutLogWrongFalsely : Prop := fnExactCutLogRow.holds Tryz.pinned (OpenSpec.ofChange fnExactCutLogWrong)

/-- 'laws.FnExactPutChunk': WHATEVER THE INPUT: true; the input reads as it did. -/
def fnExactPutChunkSpec : ChangeSpec := { name := "fnExactPutChunk", fn := fun _ => fun
  | [d1, d2] => { results := [.lit (.bool true)], args := [d1, d2] }
  | _ => none }
def fnExactPutChunkRow : OpenClaim := { program := "ytiabjkihebhfkaagreat", sum := "f052269bbb80e71177ad0633e3492f01905b7141b3d183a22c24a761e623dc02", func := "loop.example/g00849/laws.FnExactPutChunk", spec := "fnExactPutChunk", inPlace := ["internal/bytealg.abigen_runtime_cmpstring", "slices.overlaps[loop.example/g00849/impl.Chunk]"], unfollowed := true, recurses := true, apart := false }
def FnExactPutChunkSaid : Prop := fnExactPutChunkRow.holds Tryz.pinned (OpenSpec.ofChange fnExactPutChunkSpec)

/-- ITS FALSE NEIGHBOUR: 'it returns false'. Refute it at one input. -/
def fnExactPutChunkWrong : ChangeSpec := { name := "fnExactPutChunk", fn := fun _ => fun
  | [d1, d2] => { results := [.lit (.bool false)], args := [d1, d2] }
  | _ => none }
def FnExactPutChunkWrongFalsely : Prop := fnExactPutChunkRow.holds Tryz.pinned (OpenSpec.ofChange fnExactPutChunkWrong)

/-- 'laws.FnChunks': WHATEVER THE INPUT: true; the input reads as it did. -/
def fnChunksSpec : ChangeSpec := { name := "fnChunks", fn := fun _ => fun
  | [d1, d2] => { results := [.lit (.bool true)], args := [d1, d2] }
  | _ => none }
def fnChunksRow : OpenClaim := { program := "ytiabjkihebhfkaagreat", sum := "f052269bbb80e71177ad0633e3492f01905b7141b3d183a22c24a761e623dc02", func := "loop.example/g00849/laws.FnChunks", spec := "fnChunks", inPlace := ["internal/bytealg.abigen_runtime_cmpstring", "slices.overlaps[loop.example/g00849/impl.Chunk]"], unfollowed := true, recurses := true, apart := false }
def FnChunksSaid : Prop := fnChunksRow.holds Tryz.pinned (OpenSpec.ofChange fnChunksSpec)

/-- ITS FALSE NEIGHBOUR: 'it returns false'. Refute it at one input. -/
def fnChunksWrong : ChangeSpec := { name := "fnChunks", fn := fun _ => fun
  | [d1, d2] => { results := [.lit (.bool false)], args := [d1, d2] }
  | _ => none }
def FnChunksWrongFalsely : Prop := fnChunksRow.holds Tryz.pinned (OpenSpec.ofChange fnChunksWrong)

/-- 'laws.FnHeads': WHATEVER THE INPUT: true; the input reads as it did. -/
def fnHeadsSpec : ChangeSpec := { name := "fnHeads", fn := fun _ => fun
  | [d1, d2] => { results := [.lit (.bool true)], args := [d1, d2] }
  | _ => none }
def fnHeadsRow : OpenClaim := { program := "ytiabjkihebhfkaagreat", sum := "f052269bbb80e71177ad0633e3492f01905b7141b3d183a22c24a761e623dc02", func := "loop.example/g00849/laws.FnHeads", spec := "fnHeads", inPlace := ["internal/bytealg.abigen_runtime_cmpstring", "slices.overlaps[loop.example/g00849/impl.Head]"], unfollowed := true, recurses := true, apart := false }
def FnHeadsSaid : Prop := fnHeadsRow.holds Tryz.pinned (OpenSpec.ofChange fnHeadsSpec)

/-- ITS FALSE NEIGHBOUR: 'it returns false'. Refute it at one input. -/
def fnHeadsWrong : ChangeSpec := { name := "fnHeads", fn := fun _ => fun
  | [d1, d2] => { results := [.lit (.bool false)], args := [d1, d2] }
  | _ => none }
def FnHeadsWrongFalsely : Prop := fnHeadsRow.holds Tryz.pinned (OpenSpec.ofChange fnHeadsWrong)

/-- 'laws.FnCut': WHATEVER THE INPUT: true; the input reads as it did. -/
def fnCutSpec : ChangeSpec := { name := "fnCut", fn := fun _ => fun
  | [d1, d2] => { results := [.lit (.bool true)], args := [d1, d2] }
  | _ => none }
def fnCutRow : OpenClaim := { program := "ytiabjkihebhfkaagreat", sum := "f052269bbb80e71177ad0633e3492f01905b7141b3d183a22c24a761e623dc02", func := "loop.example/g00849/laws.FnCut", spec := "fnCut", inPlace := ["internal/bytealg.abigen_runtime_cmpstring", "slices.overlaps[loop.example/g00849/impl.Head]", "slices.overlaps[loop.example/g00849/impl.Last]"], unfollowed := true, recurses := true, apart := false }
def FnCutSaid : Prop := fnCutRow.holds Tryz.pinned (OpenSpec.ofChange fnCutSpec)

/-- ITS FALSE NEIGHBOUR: 'it returns false'. Refute it at one input. -/
def fnCutWrong : ChangeSpec := { name := "fnCut", fn := fun _ => fun
  | [d1, d2] => { results := [.lit (.bool false)], args := [d1, d2] }
  | _ => none }
def FnCutWrongFalsely : Prop := fnCutRow.holds Tryz.pinned (OpenSpec.ofChange fnCutWrong)

/-- 'laws.FnTrim': WHATEVER THE INPUT: true; the input reads as it did. -/
def fnTrimSpec : ChangeSpec := { name := "fnTrim", fn := fun _ => fun
  | [d1, d2] => { results := [.lit (.bool true)], args := [d1, d2] }
  | _ => none }
def fnTrimRow : OpenClaim := { program := "ytiabjkihebhfkaagreat", sum := "f052269bbb80e71177ad0633e3492f01905b7141b3d183a22c24a761e623dc02", func := "loop.example/g00849/laws.FnTrim", spec := "fnTrim", inPlace := ["internal/bytealg.abigen_runtime_cmpstring", "slices.overlaps[loop.example/g00849/impl.Head]", "slices.overlaps[loop.example/g00849/impl.Last]"], unfollowed := true, recurses := true, apart := false }
def FnTrimSaid : Prop := fnTrimRow.holds Tryz.pinned (OpenSpec.ofChange fnTrimSpec)

/-- ITS FALSE NEIGHBOUR: 'it returns false'. Refute it at one input. -/
def fnTrimWrong : ChangeSpec := { name := "fnTrim", fn := fun _ => fun
  | [d1, d2] => { results := [.lit (.bool false)], args := [d1, d2] }
  | _ => none }
def FnTrimWrongFalsely : Prop := fnTrimRow.holds Tryz.pinned (OpenSpec.ofChange fnTrimWrong)

/-- 'laws.FnFilled': WHATEVER THE INPUT: true; the input reads as it did. -/
def fnFilledSpec : ChangeSpec := { name := "fnFilled", fn := fun _ => fun
  | [d] => { results := [.lit (.bool true)], args := [d] }
  | _ => none }
def fnFilledRow : OpenClaim := { program := "ytiabjkihebhfkaagreat", sum := "f052269bbb80e71177ad0633e3492f01905b7141b3d183a22c24a761e623dc02", func := "loop.example/g00849/laws.FnFilled", spec := "fnFilled", inPlace := ["internal/bytealg.abigen_runtime_cmpstring", "slices.overlaps[loop.example/g00849/impl.Head]", "slices.overlaps[loop.example/g00849/impl.Chunk]"], unfollowed := true, recurses := true, apart := false }
def FnFilledSaid : Prop := fnFilledRow.holds Tryz.pinned (OpenSpec.ofChange fnFilledSpec)

/-- ITS FALSE NEIGHBOUR: 'it returns false'. Refute it at one input. -/
def fnFilledWrong : ChangeSpec := { name := "fnFilled", fn := fun _ => fun
  | [d] => { results := [.lit (.bool false)], args := [d] }
  | _ => none }
def FnFilledWrongFalsely : Prop := fnFilledRow.holds Tryz.pinned (OpenSpec.ofChange fnFilledWrong)

/-- 'laws.FnExactCrashStore': WHATEVER THE INPUT: true; the input reads as it did. -/
def fnExactCrashStoreSpec : ChangeSpec := { name := "fnExactCrashStore", fn := fun _ => fun
  | [d] => { results := [.lit (.bool true)], args := [d] }
  | _ => none }
def fnExactCrashStoreRow : OpenClaim := { program := "ytiabjkihebhfkaagreat", sum := "f052269bbb80e71177ad0633e3492f01905b7141b3d183a22c24a761e623dc02", func := "loop.example/g00849/laws.FnExactCrashStore", spec := "fnExactCrashStore", inPlace := ["internal/bytealg.abigen_runtime_cmpstring"], apart := false }
def FnExactCrashStoreSaid : Prop := fnExactCrashStoreRow.holds Tryz.pinned (OpenSpec.ofChange fnExactCrashStoreSpec)

/-- ITS FALSE NEIGHBOUR: 'it returns false'. Refute it at one input. -/
def fnExactCrashStoreWrong : ChangeSpec := { name := "fnExactCrashStore", fn := fun _ => fun
  | [d] => { results := [.lit (.bool false)], args := [d] }
  | _ => none }
def FnExactCrashStoreWrongFalsely : Prop := fnExactCrashStoreRow.holds Tryz.pinned (OpenSpec.ofChange fnExactCrashStoreWrong)

/- THE SECOND FORM. 'bulk': how many values and letters a reading holds, each counted each time it is reached (what is shared counts as often as it is met; a slice's spare places count too). A statement '..UptoSaid' is the law's where the arguments, and the package variables that the reading takes, are together of bulk at most 1048576: NARROWER than '..Said'. Prove '..Said' where nothing that the law and all that it calls make is longer than what came in: it says more and counts as full. Else prove '..UptoSaid'. A law counts once. -/
mutual
def uptoBulk {H : Type} : DataW H → Nat
  | .lit (.string bytes) => bytes.length + 1
  | .lit _ => 1
  | .nil => 1
  | .ptr d => uptoBulk d + 1
  | .slice elems spare => uptoBulkAll elems + uptoBulkAll spare + 1
  | .agg parts => uptoBulkAll parts + 1
  | .iface _ d => uptoBulk d + 1
  | .map entries => uptoBulkEntries entries + 1
  | .held _ => 1
def uptoBulkAll {H : Type} : List (DataW H) → Nat
  | [] => 0
  | d :: r => uptoBulk d + uptoBulkAll r
def uptoBulkEntries {H : Type} : List (Lit × DataW H) → Nat
  | [] => 0
  | x :: r => uptoBulkEntry x + uptoBulkEntries r
def uptoBulkEntry {H : Type} : Lit × DataW H → Nat
  | (.string bytes, d) => bytes.length + uptoBulk d + 1
  | (_, d) => uptoBulk d + 1
 end
def uptoSmall : (H : Type) → List (DataW H) → Bool := fun _ ds => decide (uptoBulkAll ds ≤ 1048576)
def OpenSpec.upto (s : _root_.Go.ChangeSpec) : _root_.Go.OpenSpec := { _root_.Go.OpenSpec.ofChange s with cond := some uptoSmall }

/-- 'laws.FnExactDropChunks', WHERE WHAT IT READS IS OF BULK AT MOST 1048576: true; the input reads as it did. -/
def fnExactDropChunksUptoRow : OpenClaim := { program := "ytiabjkihebhfkaagreat", sum := "f052269bbb80e71177ad0633e3492f01905b7141b3d183a22c24a761e623dc02", func := "loop.example/g00849/laws.FnExactDropChunks", spec := "fnExactDropChunks", inPlace := ["internal/bytealg.abigen_runtime_cmpstring"], unfollowed := true, recurses := true, apart := false, narrowed := true }
def FnExactDropChunksUptoSaid : Prop := fnExactDropChunksUptoRow.holds Tryz.pinned (OpenSpec.upto fnExactDropChunksSpec)

/-- 'laws.FnExactCutLog', WHERE WHAT IT READS IS OF BULK AT MOST 1048576: true; the input reads as it did. -/
def fnExactCutLogUptoRow : OpenClaim := { program := "ytiabjkihebhfkaagreat", sum := "f052269bbb80e71177ad0633e3492f01905b7141b3d183a22c24a761e623dc02", func := "loop.example/g00849/laws.FnExactCutLog", spec := "fnExactCutLog", inPlace := ["internal/bytealg.abigen_runtime_cmpstring"], unfollowed := true, recurses := true, apart := false, narrowed := true }
def FnExactCutLogUptoSaid : Prop := fnExactCutLogUptoRow.holds Tryz.pinned (OpenSpec.upto fnExactCutLogSpec)

/-- 'laws.FnExactPutChunk', WHERE WHAT IT READS IS OF BULK AT MOST 1048576: true; the input reads as it did. -/
def fnExactPutChunkUptoRow : OpenClaim := { program := "ytiabjkihebhfkaagreat", sum := "f052269bbb80e71177ad0633e3492f01905b7141b3d183a22c24a761e623dc02", func := "loop.example/g00849/laws.FnExactPutChunk", spec := "fnExactPutChunk", inPlace := ["internal/bytealg.abigen_runtime_cmpstring", "slices.overlaps[loop.example/g00849/impl.Chunk]"], unfollowed := true, recurses := true, apart := false, narrowed := true }
def FnExactPutChunkUptoSaid : Prop := fnExactPutChunkUptoRow.holds Tryz.pinned (OpenSpec.upto fnExactPutChunkSpec)

/-- 'laws.FnChunks', WHERE WHAT IT READS IS OF BULK AT MOST 1048576: true; the input reads as it did. -/
def fnChunksUptoRow : OpenClaim := { program := "ytiabjkihebhfkaagreat", sum := "f052269bbb80e71177ad0633e3492f01905b7141b3d183a22c24a761e623dc02", func := "loop.example/g00849/laws.FnChunks", spec := "fnChunks", inPlace := ["internal/bytealg.abigen_runtime_cmpstring", "slices.overlaps[loop.example/g00849/impl.Chunk]"], unfollowed := true, recurses := true, apart := false, narrowed := true }
def FnChunksUptoSaid : Prop := fnChunksUptoRow.holds Tryz.pinned (OpenSpec.upto fnChunksSpec)

/-- 'laws.FnHeads', WHERE WHAT IT READS IS OF BULK AT MOST 1048576: true; the input reads as it did. -/
def fnHeadsUptoRow : OpenClaim := { program := "ytiabjkihebhfkaagreat", sum := "f052269bbb80e71177ad0633e3492f01905b7141b3d183a22c24a761e623dc02", func := "loop.example/g00849/laws.FnHeads", spec := "fnHeads", inPlace := ["internal/bytealg.abigen_runtime_cmpstring", "slices.overlaps[loop.example/g00849/impl.Head]"], unfollowed := true, recurses := true, apart := false, narrowed := true }
def FnHeadsUptoSaid : Prop := fnHeadsUptoRow.holds Tryz.pinned (OpenSpec.upto fnHeadsSpec)

/-- 'laws.FnCut', WHERE WHAT IT READS IS OF BULK AT MOST 1048576: true; the input reads as it did. -/
def fnCutUptoRow : OpenClaim := { program := "ytiabjkihebhfkaagreat", sum := "f052269bbb80e71177ad0633e3492f01905b7141b3d183a22c24a761e623dc02", func := "loop.example/g00849/laws.FnCut", spec := "fnCut", inPlace := ["internal/bytealg.abigen_runtime_cmpstring", "slices.overlaps[loop.example/g00849/impl.Head]", "slices.overlaps[loop.example/g00849/impl.Last]"], unfollowed := true, recurses := true, apart := false, narrowed := true }
def FnCutUptoSaid : Prop := fnCutUptoRow.holds Tryz.pinned (OpenSpec.upto fnCutSpec)

/-- 'laws.FnTrim', WHERE WHAT IT READS IS OF BULK AT MOST 1048576: true; the input reads as it did. -/
def fnTrimUptoRow : OpenClaim := { program := "ytiabjkihebhfkaagreat", sum := "f052269bbb80e71177ad0633e3492f01905b7141b3d183a22c24a761e623dc02", func := "loop.example/g00849/laws.FnTrim", spec := "fnTrim", inPlace := ["internal/bytealg.abigen_runtime_cmpstring", "slices.overlaps[loop.example/g00849/impl.Head]", "slices.overlaps[loop.example/g00849/impl.Last]"], unfollowed := true, recurses := true, apart := false, narrowed := true }
def FnTrimUptoSaid : Prop := fnTrimUptoRow.holds Tryz.pinned (OpenSpec.upto fnTrimSpec)

/-- 'laws.FnFilled', WHERE WHAT IT READS IS OF BULK AT MOST 1048576: true; the input reads as it did. -/
def fnFilledUptoRow : OpenClaim := { program := "ytiabjkihebhfkaagreat", sum := "f052269bbb80e71177ad0633e3492f01905b7141b3d183a22c24a761e623dc02", func := "loop.example/g00849/laws.FnFilled", spec := "fnFilled", inPlace := ["internal/bytealg.abigen_runtime_cmpstring", "slices.overlaps[loop.example/g00849/impl.Head]", "slices.overlaps[loop.example/g00849/impl.Chunk]"], unfollowed := true, recurses := true, apart := false, narrowed := true }
def FnFilledUptoSaid : Prop := fnFilledUptoRow.holds Tryz.pinned (OpenSpec.upto fnFilledSpec)

/-- 'laws.FnExactCrashStore', WHERE WHAT IT READS IS OF BULK AT MOST 1048576: true; the input reads as it did. -/
def fnExactCrashStoreUptoRow : OpenClaim := { program := "ytiabjkihebhfkaagreat", sum := "f052269bbb80e71177ad0633e3492f01905b7141b3d183a22c24a761e623dc02", func := "loop.example/g00849/laws.FnExactCrashStore", spec := "fnExactCrashStore", inPlace := ["internal/bytealg.abigen_runtime_cmpstring"], apart := false, narrowed := true }
def FnExactCrashStoreUptoSaid : Prop := fnExactCrashStoreUptoRow.holds Tryz.pinned (OpenSpec.upto fnExactCrashStoreSpec)

end Rows
end Go.Proofs.YtiabjkihebhfkaaGreat
