/- The evaluator's operations, one by one, are the machine's. -/
import Derived.Test.YtgmfljabhcamlaaAeAppend2
namespace Go.Ae
open Go.RowKit
set_option linter.unusedVariables false
set_option linter.unusedSimpArgs false
section
variable {P : Program} {w w' w0 : World} {M : Nat → Nat → Path → Option Nat} {R : Nat → Prop} {S : St} {g : G} {a : Act} {o : Oper}

theorem addNews_nil {S' : St} (h : addNews S [] = some S') : S' = S := by simp [addNews] at h; exact h.symm

theorem cXs_args {cell : Addr → Option Value} {xs : Array Operand} {ts : Array TypeId} {ys : List X} (h : cXs P (xs.toList.zip ts.toList) = some ys) (hl : xs.size = ts.size) (hT : TRel S g cell a) : VRels S g cell (evalXs S ys) (xs.map a.eval) := by
  have key : ∀ (l : List Operand) (t : List TypeId) (ys : List X), cXs P (l.zip t) = some ys → l.length = t.length → (evalXs S ys).length = l.length ∧ ∀ (i : Nat) (v : AV), (evalXs S ys)[i]? = some v → ∃ x, l[i]? = some x ∧ VRel S g cell v (a.eval x) := by
    intro l
    induction l with
    | nil => intro t ys h _; simp [cXs] at h; subst h; exact ⟨rfl, fun i v h => by simp [evalXs] at h⟩
    | cons x r ih =>
      intro t ys h hl
      cases t with
      | nil => simp at hl
      | cons t ts =>
        simp only [List.zip_cons_cons, cXs] at h
        split at h
        · rename_i y zs h1 h2
          cases h
          obtain ⟨k1, k2⟩ := ih ts zs h2 (by simpa using hl)
          refine ⟨by simp [evalXs, k1], fun i v hv => ?_⟩
          cases i with
          | zero => simp [evalXs] at hv; subst hv; exact ⟨x, by simp, evalX_rel h1 hT⟩
          | succ i => simp [evalXs] at hv; obtain ⟨x', e1, e2⟩ := k2 i v hv; exact ⟨x', by simpa using e1, e2⟩
        · cases h
  obtain ⟨k1, k2⟩ := key xs.toList ts.toList ys h (by simpa using hl)
  refine ⟨by simp [k1], fun i v hv => ?_⟩
  obtain ⟨x, e1, e2⟩ := k2 i v hv
  have : (xs.map a.eval).getD i Go.undef = a.eval x := by
    rw [Array.getElem?_toList] at e1
    simp [e1]
  rw [this]; exact e2

/-- A call to a known function. -/
theorem call_does {f : FuncId} {cargs : Array Value} {S' : St} {v : AV} (he : (execOp a.eval o).run P w = .ok (.enter f cargs) w) (h : Calls P f cargs w (fun e w' => ∃ cv g', e = .returned cv ∧ Outc w0 M R S g S' v cv w' g')) : Does P w0 M R S g a w o S' v := by
  intro next Q hnext
  unfold Oper.wp
  rw [he, Oper.upon_enter]
  refine Calls.mono h fun e w' hh => ?_
  obtain ⟨cv, g', rfl, hc⟩ := hh
  exact hnext cv w' g' hc

def Enters (P : Program) (f : Nat) : Prop := ∃ fn, P.funcs[f]? = some fn ∧ (fn.name == "runtime.NumGoroutine") = false ∧ fn.body.isNone = false
structure OracleFull (P : Program) (O : Oracle) : Prop where
  ok : OracleOk P O
  enters : ∀ f args E r, O f args E = some r → Enters P f

theorem run_call {c : Call} {f : FuncId} (ho : o.op = .call c) (hc : c.callee = .value (.func f)) (hf : Enters P f) : (execOp a.eval o).run P w = .ok (.enter f (c.args.map a.eval)) w := by
  obtain ⟨fn, h1, h2, h3⟩ := hf
  have h2' : fn.name ≠ "runtime.NumGoroutine" := by simpa using h2
  have h3' : fn.body ≠ none := fun h => by rw [h] at h3; cases h3
  unfold execOp
  rw [ho]
  simp [resolve, hc, Act.eval, Deferred.ofValue, invoke, callFunc, h1, h2', h3']
theorem run_callv {c : Call} {t : Nat} {f : FuncId} {caps : Array Value} (ho : o.op = .call c) (hc : c.callee = .value (.tmp t)) (hv : a.eval (.tmp t) = .func (.func f) #[] caps) (hf : Enters P f) : (execOp a.eval o).run P w = .ok (.enter f (c.args.map a.eval ++ caps)) w := by
  obtain ⟨fn, h1, h2, h3⟩ := hf
  have h2' : fn.name ≠ "runtime.NumGoroutine" := by simpa using h2
  have h3' : fn.body ≠ none := fun h => by rw [h] at h3; cases h3
  unfold execOp
  rw [ho]
  simp [resolve, hc, hv, Deferred.ofValue, invoke, callFunc, h1, h2', h3']
end
end Go.Ae
