/- A part of a striped object is written over by differences: the program's answer and the reference's. -/
import Derived.Test.YtnfghcflpnlbiaaRows
import Derived.Test.YtnfghcflpnlbiaaC3Ok
import Derived.Test.YtnfghcflpnlbiaaC3M23
import Derived.WalkKit
import Derived.ProofKit
import Derived.OpenShut
import Derived.ShutString
import Derived.ChangeOld
import Derived.Below
import Derived.SizedLaws
namespace Go.Proofs.Ytnfghcflpnlbiaa.fnExactWriteWide
open Go.ChangeShapes Go.WideShapes Go.ChangeAt Go.RowKit
set_option linter.unusedVariables false
theorem own : ownKnob Try.prog.godebug = none := by kernel_rfl
theorem laidOut : laidOutB Try.prog = true := by kernel_rfl
theorem mixed : Try.prog.follows .mixedOrders = true := by kernel_rfl
theorem paramsAre : Go.Ae.paramsOf Try.prog Try.f14.params.toList = some [(true, [.int .i64, .int .i64, .int .i64, .int .i64, .sl 16 [.str]]), (false, [.int .i64]), (false, [.str])] := by kernel_rfl
set_option maxRecDepth 100000 in
theorem lifted (os : Os) (started : os.Started) (H : Type) (enc : TypeId × Value → H) :
    ReturnsInHanded {} Try.checked os 14 .any (Rows.fnExactWriteWideSpec.pre6 enc Try.prog Try.f14 Rows.fnExactWriteWideRow.domain false) (Rows.fnExactWriteWideSpec.post enc Try.prog Try.f14 false true false false) := by
  refine returnsInHanded_of_change_sized (C := Try.checked) own started (by kernel_rfl) Try.func14
    (ChangeSpec.witness6 (enc := enc) (C := Try.checked) false ⟨#[], #[.agg #[.int .i64 0, .int .i64 0, .int .i64 0, .int .i64 0, .slice none 0 0], .int .i64 0, .string ByteArray.empty], []⟩ 8 (by kernel_rfl) (by kernel_rfl) (by kernel_rfl) (by kernel_rfl)) ?_
  intro W base args ds gs before hval0 hW hcnd hsz0 _
  have hval : ∀ (j : Nat) t v, Try.f14.params.toList[j]? = some t → args[j]? = some v → Value.okWide Try.prog W .any 0 t v := fun j t v ht hv => hval0 j t v (by simpa using ht) hv
  have hW' := hW
  obtain ⟨p, q, hA0, hV, rfl, hfz, hnd⟩ := hW
  obtain ⟨rfl, rfl⟩ := trodVars_none hV
  have hA : DataW.TrodAll enc Try.prog W 0 (fun _ => true) true Try.f14.params.toList args.toList ds p := hA0
  have hsz : (DataW.weightsEach Try.prog Try.f14.params.toList ds).all (· ≤ reachBytes) = true := by
    have h : (DataW.weightsEach Try.prog (Try.f14.params.toList ++ []) (ds ++ [])).all (· ≤ reachBytes) = true := hsz0
    simpa only [List.append_nil] using h
  have hc := Go.Ae.law_contract (enc := enc) (W := W) Go.Ae.C3.progOk mixed (f := 14) paramsAre Go.Ae.C3.lawWriteWide hA hval hsz
  refine hc.mono fun e W' hb => ?_
  obtain ⟨he, bel⟩ := hb
  subst he
  have back := Go.Ae.args_back laidOut bel paramsAre hA
  rw [show Try.f14.params.toList = [73, 2, 9] from rfl] at hA back
  obtain ⟨v0, vs0, d0, ds0, p0, q0, hv0, rfl, hp0, h0, r0⟩ := trodAll_cons hA
  obtain ⟨v1, vs1, d1, ds1, p1, q1, hv1, rfl, hp1, h1, r1⟩ := trodAll_cons r0
  obtain ⟨v2, vs2, d2, ds2, p2, q2, hv2, rfl, hp2, h2, r2⟩ := trodAll_cons r1
  obtain ⟨hv', rfl, hp'⟩ := trodAll_nil r2
  exact ⟨_, rfl, _, _, _, [], _, [], hW', trodAll_mk1 (shut_bool Try.underlying4 _), back, rfl, bel.frame _, fun h => by cases h⟩
theorem over : Rows.fnExactWriteWideRow.holds Go.Proofs.Ytnfghcflpnlbiaa.Try.pinned (OpenSpec.ofChange Rows.fnExactWriteWideSpec) :=
  OpenClaim.holds_of_wide 14 Try.f14 rfl rfl rfl rfl rfl rfl rfl ⟨rfl, rfl, rfl, rfl, rfl⟩ rfl rfl rfl rfl rfl (by kernel_rfl) Try.func14 (by kernel_rfl)
    (of_decide_eq_true (by kernel_rfl)) (by unfold Func.isWrapper; first | (rw [if_pos (by decide +kernel)]; kernel_rfl) | (rw [if_neg (by decide +kernel)]; exact ⟨rfl, rfl⟩))
    (fun os started H enc _ => lifted os started H enc)
end Go.Proofs.Ytnfghcflpnlbiaa.fnExactWriteWide
namespace Go.Proofs.Ytnfghcflpnlbiaa
/-- The row, under a short name, for the claim. -/
theorem fnExactWriteWide_holds : Rows.FnExactWriteWideSaid := fnExactWriteWide.over
#print axioms fnExactWriteWide_holds
end Go.Proofs.Ytnfghcflpnlbiaa
