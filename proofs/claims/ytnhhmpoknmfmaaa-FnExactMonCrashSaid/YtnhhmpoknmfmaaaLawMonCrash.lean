/- For every monitor, the law FnExactMonCrash returns true and leaves its argument as it was. No condition. -/
import Derived.Test.YtnhhmpoknmfmaaaRows
import Derived.Test.YtnhhmpoknmfmaaaE1Ok
import Derived.Test.YtnhhmpoknmfmaaaE1M5
import Derived.WalkKit
import Derived.ProofKit
import Derived.OpenShut
import Derived.ShutString
import Derived.ChangeOld
import Derived.Below
import Derived.SizedLaws
namespace Go.Proofs.Ytnhhmpoknmfmaaa.fnExactMonCrash
open Go.ChangeShapes Go.WideShapes Go.ChangeAt Go.RowKit
set_option linter.unusedVariables false
theorem own : ownKnob Try.prog.godebug = none := by kernel_rfl
theorem laidOut : laidOutB Try.prog = true := by kernel_rfl
theorem mixed : Try.prog.follows .mixedOrders = true := by kernel_rfl
theorem paramsAre : Go.Ae.paramsOf Try.prog Try.f6.params.toList = some [(true, [.int .i64, .int .i64, .sl 72 [.int .i64, .int .i64, .int .i64, .int .i64, .int .i64, .int .i64, .int .i64, .int .i64, .int .i64], .int .i64, .int .i64, .int .i64, .int .i64, .int .i64, .int .i64, .int .i64, .int .i64, .int .i64, .sl 8 [.int .i64], .sl 8 [.int .i64], .bool])] := by kernel_rfl
set_option maxRecDepth 100000 in
theorem lifted (os : Os) (started : os.Started) (H : Type) (enc : TypeId × Value → H) :
    ReturnsInHanded {} Try.checked os 6 .any (Rows.fnExactMonCrashSpec.pre6 enc Try.prog Try.f6 Rows.fnExactMonCrashRow.domain false) (Rows.fnExactMonCrashSpec.post enc Try.prog Try.f6 false true false false) := by
  refine returnsInHanded_of_change_sized (C := Try.checked) own started (by kernel_rfl) Try.func6
    (ChangeSpec.witness6 (enc := enc) (C := Try.checked) false ⟨#[], #[.agg #[.int .i64 0, .int .i64 0, .slice none 0 0, .int .i64 0, .int .i64 0, .int .i64 0, .int .i64 0, .int .i64 0, .int .i64 0, .int .i64 0, .int .i64 0, .int .i64 0, .slice none 0 0, .slice none 0 0, .bool false]], []⟩ 8 (by kernel_rfl) (by kernel_rfl) (by kernel_rfl) (by kernel_rfl)) ?_
  intro W base args ds gs before hval0 hW hcnd hsz0 _
  have hval : ∀ (j : Nat) t v, Try.f6.params.toList[j]? = some t → args[j]? = some v → Value.okWide Try.prog W .any 0 t v := fun j t v ht hv => hval0 j t v (by simpa using ht) hv
  have hW' := hW
  obtain ⟨p, q, hA0, hV, rfl, hfz, hnd⟩ := hW
  obtain ⟨rfl, rfl⟩ := trodVars_none hV
  have hA : DataW.TrodAll enc Try.prog W 0 (fun _ => true) true Try.f6.params.toList args.toList ds p := hA0
  have hsz : (DataW.weightsEach Try.prog Try.f6.params.toList ds).all (· ≤ reachBytes) = true := by
    have h : (DataW.weightsEach Try.prog (Try.f6.params.toList ++ []) (ds ++ [])).all (· ≤ reachBytes) = true := hsz0
    simpa only [List.append_nil] using h
  have hc := Go.Ae.law_contract (enc := enc) (W := W) Go.Ae.E1.progOk mixed (f := 6) paramsAre Go.Ae.E1.lawMonCrash hA hval hsz
  refine hc.mono fun e W' hb => ?_
  obtain ⟨he, bel⟩ := hb
  subst he
  have back := Go.Ae.args_back laidOut bel paramsAre hA
  rw [show Try.f6.params.toList = [57] from rfl] at hA back
  obtain ⟨v0, vs0, d0, ds0, p0, q0, hv0, rfl, hp0, h0, r0⟩ := trodAll_cons hA
  obtain ⟨hv', rfl, hp'⟩ := trodAll_nil r0
  exact ⟨_, rfl, _, _, _, [], _, [], hW', trodAll_mk1 (shut_bool Try.underlying4 _), back, rfl, bel.frame _, fun h => by cases h⟩
theorem over : Rows.fnExactMonCrashRow.holds Go.Proofs.Ytnhhmpoknmfmaaa.Try.pinned (OpenSpec.ofChange Rows.fnExactMonCrashSpec) :=
  OpenClaim.holds_of_wide 6 Try.f6 rfl rfl rfl rfl rfl rfl rfl ⟨rfl, rfl, rfl, rfl, rfl⟩ rfl rfl rfl rfl rfl (by kernel_rfl) Try.func6 (by kernel_rfl)
    (of_decide_eq_true (by kernel_rfl)) (by unfold Func.isWrapper; first | (rw [if_pos (by decide +kernel)]; kernel_rfl) | (rw [if_neg (by decide +kernel)]; exact ⟨rfl, rfl⟩))
    (fun os started H enc _ => lifted os started H enc)
end Go.Proofs.Ytnhhmpoknmfmaaa.fnExactMonCrash
namespace Go.Proofs.Ytnhhmpoknmfmaaa
/-- The row, under a short name, for the claim. -/
theorem fnExactMonCrash_holds : Rows.FnExactMonCrashSaid := fnExactMonCrash.over
#print axioms fnExactMonCrash_holds
end Go.Proofs.Ytnhhmpoknmfmaaa
