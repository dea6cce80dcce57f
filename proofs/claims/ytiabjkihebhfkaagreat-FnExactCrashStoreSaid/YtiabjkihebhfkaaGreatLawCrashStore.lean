/- The law FnExactCrashStore. -/
import Derived.Test.YtiabjkihebhfkaaGreatRows
import Derived.Test.YtiabjkihebhfkaaGreatHCOk
import Derived.Test.YtiabjkihebhfkaaGreatHDE2
import Derived.WalkKit
import Derived.ProofKit
import Derived.OpenShut
import Derived.ShutString
import Derived.ChangeOld
import Derived.Below
import Derived.SizedLaws
namespace Go.Proofs.YtiabjkihebhfkaaGreat.fnExactCrashStore
open Go.ChangeShapes Go.WideShapes Go.ChangeAt Go.RowKit
set_option linter.unusedVariables false
theorem own : ownKnob Tryz.prog.godebug = none := by kernel_rfl
theorem laidOut : laidOutB Tryz.prog = true := by kernel_rfl
theorem mixed : Tryz.prog.follows .mixedOrders = true := by kernel_rfl
theorem paramsAre : Go.Ae.paramsOf Tryz.prog Tryz.f11.params.toList = some [(true, [.sl 160 [.int .i64, .int .i64, .int .i64, .int .i64, .int .i64, .int .i64, .sl 48 [.str, .int .i64, .int .i64, .int .i64, .int .i64], .sl 32 [.int .i64, .int .i64, .int .i64, .int .i64], .sl 88 [.int .i64, .int .i64, .int .i64, .int .i64, .str, .bool, .int .i64, .int .i64, .int .i64, .int .i64], .int .i64, .int .i64, .sl 64 [.str, .int .i64, .int .i64, .int .i64, .int .i64, .str]], .sl 160 [.int .i64, .int .i64, .int .i64, .int .i64, .int .i64, .int .i64, .sl 48 [.str, .int .i64, .int .i64, .int .i64, .int .i64], .sl 32 [.int .i64, .int .i64, .int .i64, .int .i64], .sl 88 [.int .i64, .int .i64, .int .i64, .int .i64, .str, .bool, .int .i64, .int .i64, .int .i64, .int .i64], .int .i64, .int .i64, .sl 64 [.str, .int .i64, .int .i64, .int .i64, .int .i64, .str]]])] := by kernel_rfl
set_option maxRecDepth 100000 in
theorem lifted (os : Os) (started : os.Started) (H : Type) (enc : TypeId × Value → H) :
    ReturnsInHanded {} Tryz.checked os 11 .any (Rows.fnExactCrashStoreSpec.pre6 enc Tryz.prog Tryz.f11 Rows.fnExactCrashStoreRow.domain false) (Rows.fnExactCrashStoreSpec.post enc Tryz.prog Tryz.f11 false true false false) := by
  refine returnsInHanded_of_change_sized (C := Tryz.checked) own started (by kernel_rfl) Tryz.func11
    (ChangeSpec.witness6 (enc := enc) (C := Tryz.checked) false ⟨#[], #[.agg #[.slice none 0 0, .slice none 0 0]], []⟩ 8 (by kernel_rfl) (by kernel_rfl) (by kernel_rfl) (by kernel_rfl)) ?_
  intro W base args ds gs before hval0 hW hcnd hsz0 _
  have hval : ∀ (j : Nat) t v, Tryz.f11.params.toList[j]? = some t → args[j]? = some v → Value.okWide Tryz.prog W .any 0 t v := fun j t v ht hv => hval0 j t v (by simpa using ht) hv
  have hW' := hW
  obtain ⟨p, q, hA0, hV, rfl, hfz, hnd⟩ := hW
  obtain ⟨rfl, rfl⟩ := trodVars_none hV
  have hA : DataW.TrodAll enc Tryz.prog W 0 (fun _ => true) true Tryz.f11.params.toList args.toList ds p := hA0
  have hsz : (DataW.weightsEach Tryz.prog Tryz.f11.params.toList ds).all (· ≤ reachBytes) = true := by
    have h : (DataW.weightsEach Tryz.prog (Tryz.f11.params.toList ++ []) (ds ++ [])).all (· ≤ reachBytes) = true := hsz0
    simpa only [List.append_nil] using h
  have hc := Go.Ae.law_contract (enc := enc) (W := W) Go.Ae.GA.B.progOk mixed (f := 11) paramsAre Go.Ae.GA.B.lawCrashStore hA hval hsz
  refine hc.mono fun e W' hb => ?_
  obtain ⟨he, bel⟩ := hb
  subst he
  have back := Go.Ae.args_back laidOut bel paramsAre hA
  rw [show Tryz.f11.params.toList = [104] from rfl] at hA back
  obtain ⟨v0, vs0, d0, ds0, p0, q0, hv0, rfl, hp0, h0, r0⟩ := trodAll_cons hA
  obtain ⟨hv', rfl, hp'⟩ := trodAll_nil r0
  exact ⟨_, rfl, _, _, _, [], _, [], hW', trodAll_mk1 (shut_bool Tryz.underlying4 _), back, rfl, bel.frame _, fun h => by cases h⟩
theorem over : Rows.fnExactCrashStoreRow.holds Go.Proofs.YtiabjkihebhfkaaGreat.Tryz.pinned (OpenSpec.ofChange Rows.fnExactCrashStoreSpec) :=
  OpenClaim.holds_of_wide 11 Tryz.f11 rfl rfl rfl rfl rfl rfl rfl ⟨rfl, rfl, rfl, rfl, rfl⟩ rfl rfl rfl rfl rfl (by kernel_rfl) Tryz.func11 (by kernel_rfl)
    (of_decide_eq_true (by kernel_rfl)) (by unfold Func.isWrapper; first | (rw [if_pos (by decide +kernel)]; kernel_rfl) | (rw [if_neg (by decide +kernel)]; exact ⟨rfl, rfl⟩))
    (fun os started H enc _ => lifted os started H enc)
end Go.Proofs.YtiabjkihebhfkaaGreat.fnExactCrashStore
namespace Go.Proofs.YtiabjkihebhfkaaGreat
/-- The row, under a short name, for the claim. -/
theorem fnExactCrashStore_holds : Rows.FnExactCrashStoreSaid := fnExactCrashStore.over
#print axioms fnExactCrashStore_holds
end Go.Proofs.YtiabjkihebhfkaaGreat
