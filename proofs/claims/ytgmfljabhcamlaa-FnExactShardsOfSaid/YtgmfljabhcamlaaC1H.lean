/- Matrices that come in: measured, copied, looked at. -/
import Derived.Test.YtgmfljabhcamlaaC1E
namespace Go.Ae.C1
set_option linter.unusedSimpArgs false
set_option linter.unusedVariables false
@[simp] theorem evalW_callv (O : Oracle) (md : Nat → Mode) (st : St) (base : Nat) (x : X) (args : List X) (fl : Bool) : evalW O md st base (.callv x args fl) = match evalX st x with
    | .fn f caps => match md f with
      | .val => match callVal O st base f (evalXs st args ++ caps) fl with
        | some (v, n) => match addNews st n with
          | some st' => some (v, st')
          | none => none
        | none => none
      | .view => match callView O st f (evalXs st args ++ caps) with
        | some v => some (v, st)
        | none => none
      | .ref => callRef O st base f (evalXs st args ++ caps) fl
    | _ => none := rfl
theorem md61 : code.md 132 = .val := rfl
theorem between (k : Nat) (a b c : Int) : call code (k + 1) 78 [.int .i64 a, .int .i64 b, .int .i64 c] [] = some ⟨.bool (inB a b c), [], []⟩ := by
  refine call_run rfl fn78 rfl ?_
  simp [F78]
  repeat' ((first | apply RunG_ncase | apply RunB_ncase | apply RunG_case | apply RunB_case | apply RunP_case) <;> intro h <;> simp [h])
  all_goals (simp_all [inB] <;> omega)
theorem l00In (k : Nat) (a b c : Int) : call code (k + 1) 70 [.int .i64 a, .int .i64 b, .int .i64 c] [] = some ⟨.bool (inB a b c), [], []⟩ := by
  refine call_run rfl fn70 rfl ?_
  simp [F70]
  repeat' ((first | apply RunG_ncase | apply RunB_ncase | apply RunG_case | apply RunB_case | apply RunP_case) <;> intro h <;> simp [h])
  all_goals (simp_all [inB] <;> omega)
def elB (c : Int) : Bool := inB c 0 255
theorem l02Byte (k : Nat) (c : Int) : call code (k + 2) 128 [.int .i64 c] [] = some ⟨.bool (elB c), [], []⟩ := by
  refine call_run rfl fn128 rfl ?_
  simp [F128, rcall70, l00In, elB]
theorem isElement (k : Nat) (c : Int) : call code (k + 2) 133 [.int .i64 c] [] = some ⟨.bool (elB c), [], []⟩ := by
  refine call_run rfl fn133 rfl ?_
  simp [F133, rcall78, between, elB]
theorem notElement (k : Nat) (c : Int) : call code (k + 3) 132 [.int .i64 c] [] = some ⟨.bool (!elB c), [], []⟩ := by
  refine call_run rfl fn132 rfl ?_
  simp [F132, rcall133, isElement]
theorem indexFunc (k : Nat) (ws : List Int) (hn : ws.length ≤ 1048576) : ∃ r : Int, call code (k + 4) 157 [.rd true (rowsZ ws), .fn 132 []] [] = some ⟨.int .i64 r, [], []⟩ ∧ decide (0 ≤ r) = !(ws.all elB) := by
  have hrl := rowsZ_len ws
  cases ha : ws.all elB
  · obtain ⟨i0, hi0, hbad, hmin⟩ : ∃ (i : Nat) (h : i < ws.length), elB ws[i] = false ∧ ∀ j (hj : j < i), elB (ws[j]'(by omega)) = true := by
      have hex : ∃ i, ∃ h : i < ws.length, elB ws[i] = false := by
        rw [List.all_eq_false] at ha
        obtain ⟨x, hx, hb⟩ := ha
        obtain ⟨i, hi, rfl⟩ := List.getElem_of_mem hx
        exact ⟨i, hi, by simpa using hb⟩
      obtain ⟨n, ⟨h1, h2⟩, h3⟩ := least hex
      refine ⟨n, h1, h2, fun j hj => ?_⟩
      cases hb : elB (ws[j]'(by omega)) with
      | true => rfl
      | false => exact absurd (h3 j ⟨by omega, hb⟩) (by omega)
    refine ⟨i0, call_run rfl fn157 rfl ?_, by simp⟩
    simp [F157, hrl]
    refine RunC_loop (fun i : Nat => ⟨[.rd true (rowsZ ws), .fn 132 [], .undef, .undef, .undef, .undef, .undef, .int .i64 ws.length, .int .i64 i] ++ List.replicate 10 .undef, [], []⟩)
      (fun i => i ≤ i0) (fun i => ws.length - i) 0 (Nat.zero_le _) (by simp; omega) (by simp) fun i hi _ => ?_
    have hlt : i < ws.length := by omega
    have hg : ∀ h, (rowsZ ws)[i]'h = [AV.int .i64 ws[i]] := fun h => rowsZ_at hlt h
    have hs : IntKind.wrap .i64 ((i : Int) + 1) = ((i + 1 : Nat) : Int) := by rw [wrap64 ⟨by omega, by omega⟩]; omega
    by_cases hii : i = i0
    · subst hii
      simp [hlt, hrl, hg, md61, notElement, hbad]
    · have hgood := hmin i (by omega)
      simp [hlt, hrl, hg, md61, notElement, hgood, hs]
      exact ⟨i + 1, by omega, by omega, by simp⟩
  · refine ⟨-1, call_run rfl fn157 rfl ?_, by simp⟩
    simp [F157, hrl]
    refine RunC_loop (fun i : Nat => ⟨[.rd true (rowsZ ws), .fn 132 [], .undef, .undef, .undef, .undef, .undef, .int .i64 ws.length, .int .i64 i] ++ List.replicate 10 .undef, [], []⟩)
      (fun i => i ≤ ws.length) (fun i => ws.length - i) 0 (Nat.zero_le _) (by simp; omega) (by simp) fun i hi _ => ?_
    by_cases hlt : i < ws.length
    · have hg : ∀ h, (rowsZ ws)[i]'h = [AV.int .i64 ws[i]] := fun h => rowsZ_at hlt h
      have hs : IntKind.wrap .i64 ((i : Int) + 1) = ((i + 1 : Nat) : Int) := by rw [wrap64 ⟨by omega, by omega⟩]; omega
      have hgood : elB ws[i] = true := List.all_eq_true.1 ha _ (List.getElem_mem hlt)
      simp [hlt, hrl, hg, md61, notElement, hgood, hs]
      exact ⟨i + 1, by omega, by omega, by simp⟩
    · have : i = ws.length := by omega
      subst this
      simp
theorem containsFunc (k : Nat) (ws : List Int) (hn : ws.length ≤ 1048576) : call code (k + 5) 131 [.rd true (rowsZ ws), .fn 132 []] [] = some ⟨.bool (!(ws.all elB)), [], []⟩ := by
  refine call_run rfl fn131 rfl ?_
  obtain ⟨r, h1, h2⟩ := indexFunc k ws hn
  simp [F131, rcall157, h1, h2]
end Go.Ae.C1
