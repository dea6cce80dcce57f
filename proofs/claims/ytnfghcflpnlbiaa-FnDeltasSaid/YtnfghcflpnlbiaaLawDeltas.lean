/- A write by differences, applied in any order, yields the object striped anew. -/
import Derived.Test.YtnfghcflpnlbiaaRows
import Derived.Test.YtnfghcflpnlbiaaC3Ok
import Derived.Test.YtnfghcflpnlbiaaC3M24
import Derived.WalkKit
import Derived.ProofKit
import Derived.OpenShut
import Derived.ShutString
import Derived.ChangeOld
import Derived.Below
import Derived.SizedLaws
namespace Go.Proofs.Ytnfghcflpnlbiaa.fnDeltas
open Go.ChangeShapes Go.WideShapes Go.ChangeAt Go.RowKit
set_option linter.unusedVariables false
theorem own : ownKnob Try.prog.godebug = none := by kernel_rfl
theorem laidOut : laidOutB Try.prog = true := by kernel_rfl
theorem mixed : Try.prog.follows .mixedOrders = true := by kernel_rfl
theorem paramsAre : Go.Ae.paramsOf Try.prog Try.f15.params.toList = some [(false, [.sl 1 [.int .u8]])] := by kernel_rfl
set_option maxRecDepth 100000 in
theorem lifted (os : Os) (started : os.Started) (H : Type) (enc : TypeId × Value → H) :
    ReturnsInHanded {} Try.checked os 15 .any (Rows.fnDeltasSpec.pre6 enc Try.prog Try.f15 Rows.fnDeltasRow.domain false) (Rows.fnDeltasSpec.post enc Try.prog Try.f15 false true false false) := by
  refine returnsInHanded_of_change_sized (C := Try.checked) own started (by kernel_rfl) Try.func15
    (ChangeSpec.witness6 (enc := enc) (C := Try.checked) false ⟨#[], #[.slice none 0 0], []⟩ 8 (by kernel_rfl) (by kernel_rfl) (by kernel_rfl) (by kernel_rfl)) ?_
  intro W base args ds gs before hval0 hW hcnd hsz0 _
  have hval : ∀ (j : Nat) t v, Try.f15.params.toList[j]? = some t → args[j]? = some v → Value.okWide Try.prog W .any 0 t v := fun j t v ht hv => hval0 j t v (by simpa using ht) hv
  have hW' := hW
  obtain ⟨p, q, hA0, hV, rfl, hfz, hnd⟩ := hW
  obtain ⟨rfl, rfl⟩ := trodVars_none hV
  have hA : DataW.TrodAll enc Try.prog W 0 (fun _ => true) true Try.f15.params.toList args.toList ds p := hA0
  have hsz : (DataW.weightsEach Try.prog Try.f15.params.toList ds).all (· ≤ reachBytes) = true := by
    have h : (DataW.weightsEach Try.prog (Try.f15.params.toList ++ []) (ds ++ [])).all (· ≤ reachBytes) = true := hsz0
    simpa only [List.append_nil] using h
  have hc := Go.Ae.law_contract (enc := enc) (W := W) Go.Ae.C3.progOk mixed (f := 15) paramsAre Go.Ae.C3.lawDeltas hA hval hsz
  refine hc.mono fun e W' hb => ?_
  obtain ⟨he, bel⟩ := hb
  subst he
  have back := Go.Ae.args_back laidOut bel paramsAre hA
  rw [show Try.f15.params.toList = [42] from rfl] at hA back
  obtain ⟨v0, vs0, d0, ds0, p0, q0, hv0, rfl, hp0, h0, r0⟩ := trodAll_cons hA
  obtain ⟨hv', rfl, hp'⟩ := trodAll_nil r0
  exact ⟨_, rfl, _, _, _, [], _, [], hW', trodAll_mk1 (shut_bool Try.underlying4 _), back, rfl, bel.frame _, fun h => by cases h⟩
theorem over : Rows.fnDeltasRow.holds Go.Proofs.Ytnfghcflpnlbiaa.Try.pinned (OpenSpec.ofChange Rows.fnDeltasSpec) :=
  OpenClaim.holds_of_wide 15 Try.f15 rfl rfl rfl rfl rfl rfl rfl ⟨rfl, rfl, rfl, rfl, rfl⟩ rfl rfl rfl rfl rfl (by kernel_rfl) Try.func15 (by kernel_rfl)
    (of_decide_eq_true (by kernel_rfl)) (by unfold Func.isWrapper; first | (rw [if_pos (by decide +kernel)]; kernel_rfl) | (rw [if_neg (by decide +kernel)]; exact ⟨rfl, rfl⟩))
    (fun os started H enc _ => lifted os started H enc)
end Go.Proofs.Ytnfghcflpnlbiaa.fnDeltas
namespace Go.Proofs.Ytnfghcflpnlbiaa
/-- The row, under a short name, for the claim. -/
theorem fnDeltas_holds : Rows.FnDeltasSaid := fnDeltas.over
#print axioms fnDeltas_holds
end Go.Proofs.Ytnfghcflpnlbiaa
