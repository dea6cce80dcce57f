/- The law FnExactPutChunk. -/
import Derived.Test.YtiabjkihebhfkaaGreatRows
import Derived.Test.YtiabjkihebhfkaaGreatGBOk
import Derived.Test.YtiabjkihebhfkaaGreatGBZ1
import Derived.WalkKit
import Derived.ProofKit
import Derived.OpenShut
import Derived.ShutString
import Derived.ChangeOld
import Derived.Below
import Derived.SizedLaws
namespace Go.Proofs.YtiabjkihebhfkaaGreat.fnExactPutChunk
open Go.ChangeShapes Go.WideShapes Go.ChangeAt Go.RowKit
set_option linter.unusedVariables false
theorem own : ownKnob Tryz.prog.godebug = none := by kernel_rfl
theorem laidOut : laidOutB Tryz.prog = true := by kernel_rfl
theorem mixed : Tryz.prog.follows .mixedOrders = true := by kernel_rfl
theorem paramsAre : Go.Ae.paramsOf Tryz.prog Tryz.f5.params.toList = some [(true, [.int .i64, .int .i64, .int .i64, .int .i64, .int .i64, .int .i64, .sl 48 [.str, .int .i64, .int .i64, .int .i64, .int .i64], .sl 32 [.int .i64, .int .i64, .int .i64, .int .i64], .sl 88 [.int .i64, .int .i64, .int .i64, .int .i64, .str, .bool, .int .i64, .int .i64, .int .i64, .int .i64], .int .i64, .int .i64, .sl 64 [.str, .int .i64, .int .i64, .int .i64, .int .i64, .str]]), (true, [.str, .int .i64, .int .i64, .int .i64, .int .i64, .str])] := by kernel_rfl
set_option maxRecDepth 100000 in
theorem lifted (os : Os) (started : os.Started) (H : Type) (enc : TypeId × Value → H) :
    ReturnsInHanded {} Tryz.checked os 5 .any (Rows.fnExactPutChunkSpec.pre6 enc Tryz.prog Tryz.f5 Rows.fnExactPutChunkRow.domain false) (Rows.fnExactPutChunkSpec.post enc Tryz.prog Tryz.f5 false true false false) := by
  refine returnsInHanded_of_change_sized (C := Tryz.checked) own started (by kernel_rfl) Tryz.func5
    (ChangeSpec.witness6 (enc := enc) (C := Tryz.checked) false ⟨#[], #[.agg #[.int .i64 0, .int .i64 0, .int .i64 0, .int .i64 0, .int .i64 0, .int .i64 0, .slice none 0 0, .slice none 0 0, .slice none 0 0, .int .i64 0, .int .i64 0, .slice none 0 0], .agg #[.string ByteArray.empty, .int .i64 0, .int .i64 0, .int .i64 0, .int .i64 0, .string ByteArray.empty]], []⟩ 8 (by kernel_rfl) (by kernel_rfl) (by kernel_rfl) (by kernel_rfl)) ?_
  intro W base args ds gs before hval0 hW hcnd hsz0 _
  have hval : ∀ (j : Nat) t v, Tryz.f5.params.toList[j]? = some t → args[j]? = some v → Value.okWide Tryz.prog W .any 0 t v := fun j t v ht hv => hval0 j t v (by simpa using ht) hv
  have hW' := hW
  obtain ⟨p, q, hA0, hV, rfl, hfz, hnd⟩ := hW
  obtain ⟨rfl, rfl⟩ := trodVars_none hV
  have hA : DataW.TrodAll enc Tryz.prog W 0 (fun _ => true) true Tryz.f5.params.toList args.toList ds p := hA0
  have hsz : (DataW.weightsEach Tryz.prog Tryz.f5.params.toList ds).all (· ≤ reachBytes) = true := by
    have h : (DataW.weightsEach Tryz.prog (Tryz.f5.params.toList ++ []) (ds ++ [])).all (· ≤ reachBytes) = true := hsz0
    simpa only [List.append_nil] using h
  have hc := Go.Ae.law_contract (enc := enc) (W := W) Go.Ae.GA.B.progOk mixed (f := 5) paramsAre Go.Ae.GA.B.lawPutChunk hA hval hsz
  refine hc.mono fun e W' hb => ?_
  obtain ⟨he, bel⟩ := hb
  subst he
  have back := Go.Ae.args_back laidOut bel paramsAre hA
  rw [show Tryz.f5.params.toList = [31, 51] from rfl] at hA back
  obtain ⟨v0, vs0, d0, ds0, p0, q0, hv0, rfl, hp0, h0, r0⟩ := trodAll_cons hA
  obtain ⟨v1, vs1, d1, ds1, p1, q1, hv1, rfl, hp1, h1, r1⟩ := trodAll_cons r0
  obtain ⟨hv', rfl, hp'⟩ := trodAll_nil r1
  exact ⟨_, rfl, _, _, _, [], _, [], hW', trodAll_mk1 (shut_bool Tryz.underlying4 _), back, rfl, bel.frame _, fun h => by cases h⟩
theorem over : Rows.fnExactPutChunkRow.holds Go.Proofs.YtiabjkihebhfkaaGreat.Tryz.pinned (OpenSpec.ofChange Rows.fnExactPutChunkSpec) :=
  OpenClaim.holds_of_wide 5 Tryz.f5 rfl rfl rfl rfl rfl rfl rfl ⟨rfl, rfl, rfl, rfl, rfl⟩ rfl rfl rfl rfl rfl (by kernel_rfl) Tryz.func5 (by kernel_rfl)
    (of_decide_eq_true (by kernel_rfl)) (by unfold Func.isWrapper; first | (rw [if_pos (by decide +kernel)]; kernel_rfl) | (rw [if_neg (by decide +kernel)]; exact ⟨rfl, rfl⟩))
    (fun os started H enc _ => lifted os started H enc)
end Go.Proofs.YtiabjkihebhfkaaGreat.fnExactPutChunk
namespace Go.Proofs.YtiabjkihebhfkaaGreat
/-- The row, under a short name, for the claim. -/
theorem fnExactPutChunk_holds : Rows.FnExactPutChunkSaid := fnExactPutChunk.over
#print axioms fnExactPutChunk_holds
end Go.Proofs.YtiabjkihebhfkaaGreat
