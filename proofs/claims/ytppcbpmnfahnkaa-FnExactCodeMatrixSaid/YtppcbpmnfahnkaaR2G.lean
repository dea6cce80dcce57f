/- The law FnExactCodeMatrix over the evaluator's code. -/
import Derived.Test.YtppcbpmnfahnkaaR2F
namespace Go.Ae.R2
set_option linter.unusedSimpArgs false
set_option linter.unusedVariables false
set_option maxRecDepth 100000 in
set_option maxHeartbeats 8000000 in
theorem lawOk (n k m : Nat) (hk : 1 ≤ k) (hm : k + m ≤ 8) : call code (n + 7) 3 [.int .i64 k, .int .i64 m] [] = some ⟨.bool true, [], []⟩ := by
  refine call_run rfl fn3 rfl ?_
  have hi := fun n => implOk n k m hk hm
  have hs := fun n => specOk n k m hk hm
  have hlen : (gz k m 0).length ≤ 1000 ∧ 1 ≤ (gz k m 0).length := by
    have h1 := gz_len k m 0
    have h2 := (uz_lt k (by omega) 0 (by omega)).2.2
    have h3 : m * k ≤ 8 * 8 := Nat.mul_le_mul (by omega) (by omega)
    have h4 : 1 * 1 ≤ k * k := Nat.mul_le_mul hk hk
    omega
  have he := fun n h w => eqMatrix n h w (gz k m 0) (by omega)
  have hmk := fun n l S h w hl => markMatrix n l S h w (gz k m 0) 1 (by omega) (by omega) hl
  have hh := fun n h w => heldMatrix n h w (gz k m 0).length 1 (by omega) (by omega)
  have hhp : ∀ l S, hp l S 1 (gz k m 0) (gz k m 0).length = l.set S (some ⟨0, 1, false, true, rowsZ (marks 1 (gz k m 0).length)⟩) := fun l S => by
    unfold hp; rw [if_neg (by omega), mix_all]
  have hrl := rowsZ_len (gz k m 0)
  have hrm : ∀ c n, (rowsZ (marks c n)).length = n := fun c n => by simp [rowsZ, marks]
  generalize gz k m 0 = ws at *
  generalize hkm : k + m = km at hi hs
  have htk : (rowsZ ws).take ws.length = rowsZ ws := by rw [← hrl, List.take_length]
  have htm : ∀ c, (rowsZ (marks c ws.length)).take ws.length = rowsZ (marks c ws.length) := fun c => by rw [List.take_of_length_le (by rw [hrm]; exact Nat.le_refl _)]
  have h1 : decide (1 + (ws.length : Int) < 0) = false := by simp <;> omega
  simp (maxSteps := 4000000) [F3, rcall9, rcall10, rcall11, rcall12, rcall13, hi, hs, he, hmk, hh, hhp, hrl, hrm, htk, htm, h1]
set_option maxRecDepth 100000 in
set_option maxHeartbeats 8000000 in
theorem lawBad (n : Nat) (k m : Int) (hk : -9223372036854775808 ≤ k ∧ k ≤ 9223372036854775807) (hm : -9223372036854775808 ≤ m ∧ m ≤ 9223372036854775807) (h : ¬ (1 ≤ k ∧ 0 ≤ m ∧ k + m ≤ 8)) : call code (n + 7) 3 [.int .i64 k, .int .i64 m] [] = some ⟨.bool true, [], []⟩ := by
  refine call_run rfl fn3 rfl ?_
  have hi := fun n => implBad n k m hk hm h
  have hs := fun n => specBad n k m hk hm h
  have he := fun n h w => eqMatrix n h w [] (by simp)
  have hmk := fun n l S h w hl => markMatrix n l S h w [] 1 (by simp) (by omega) hl
  have hh := fun n h w => heldMatrix n h w 0 1 (by omega) (by omega)
  have hr0 : rowsZ [] = [] := rfl
  have hm0 : ∀ c, rowsZ (marks c 0) = [] := fun c => rfl
  have hhp : ∀ l S, hp l S 1 [] 0 = l := fun l S => by simp [hp]
  simp only [hr0, hm0, List.length_nil] at he hmk hh
  simp (maxSteps := 4000000) [F3, rcall9, rcall10, rcall11, rcall12, rcall13, hi, hs, he, hmk, hh, hhp]
theorem lawCodeMatrix (avs : List AV) (h : PFitsAll [(false, [.int .i64]), (false, [.int .i64])] avs) : ∃ n bs e, call code n 3 avs [] = some ⟨.bool true, bs, e⟩ := by
  obtain ⟨v0, r, rfl, h0, h⟩ := h.cons_inv
  obtain ⟨v1, r, rfl, h1, h⟩ := h.cons_inv
  obtain rfl := h.nil_inv
  obtain ⟨k, rfl, wk⟩ := h0.one_inv.i64_inv
  obtain ⟨m, rfl, wm⟩ := h1.one_inv.i64_inv
  by_cases hok : 1 ≤ k ∧ 0 ≤ m ∧ k + m ≤ 8
  · obtain ⟨k, rfl⟩ : ∃ q : Nat, k = (q : Int) := ⟨k.toNat, by omega⟩
    obtain ⟨m, rfl⟩ : ∃ q : Nat, m = (q : Int) := ⟨m.toNat, by omega⟩
    exact ⟨_, _, _, lawOk 0 k m (by omega) (by omega)⟩
  · exact ⟨_, _, _, lawBad 0 k m wk wm hok⟩
end Go.Ae.R2
