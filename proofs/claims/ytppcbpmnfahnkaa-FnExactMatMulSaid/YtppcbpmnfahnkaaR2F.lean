/- The program's CodeMatrix and the reference's. -/
import Derived.Test.YtppcbpmnfahnkaaR2E
namespace Go.Ae.R2
set_option linter.unusedSimpArgs false
set_option linter.unusedVariables false
def inB (a b c : Int) : Bool := decide (b ≤ a) && decide (a ≤ c)
theorem between (k : Nat) (a b c : Int) : call code (k + 1) 30 [.int .i64 a, .int .i64 b, .int .i64 c] [] = some ⟨.bool (inB a b c), [], []⟩ := by
  refine call_run rfl fn30 rfl ?_
  simp [F30]
  repeat' ((first | apply RunG_ncase | apply RunB_ncase | apply RunG_case | apply RunB_case | apply RunP_case) <;> intro h <;> simp [h])
  all_goals (simp_all [inB] <;> omega)
theorem implOk (n k m : Nat) (hk : 1 ≤ k) (hm : k + m ≤ 8) : call code (n + 6) 10 [.int .i64 k, .int .i64 m] [] =
    some ⟨.tup [.agg [.int .i64 (k + m : Nat), .int .i64 k, .sl 0 0 0 [] 0 (gz k m 0).length], .int .i64 0], [⟨0, 1, false, true, rowsZ (gz k m 0)⟩], []⟩ := by
  refine call_run rfl fn10 rfl ?_
  have h1 : inB k 1 8 = true := by simp [inB]; omega
  have e1 : IntKind.wrap .i64 (8 - (k : Int)) = 8 - (k : Int) := wrap64 ⟨by omega, by omega⟩
  have h2 : inB m 0 (8 - (k : Int)) = true := by simp [inB]; omega
  have hg := fun n => generator n k m hk hm
  generalize hkm : k + m = km at hg ⊢
  simp [F10, rcall30, between, h1, h2, e1, rcall31, hg]
theorem specOk (n k m : Nat) (hk : 1 ≤ k) (hm : k + m ≤ 8) : call code (n + 5) 9 [.int .i64 k, .int .i64 m] [] =
    some ⟨.tup [.agg [.int .i64 (k + m : Nat), .int .i64 k, .sl 0 0 0 [] 0 (gz k m 0).length], .int .i64 0], [⟨0, 1, false, true, rowsZ (gz k m 0)⟩], []⟩ := by
  refine call_run rfl fn9 rfl ?_
  have h1 : decide ((k : Int) < 1) = false := by simp <;> omega
  have h2 : decide ((m : Int) < 0) = false := by simp <;> omega
  have h3 : decide ((8 : Int) < (k : Int)) = false := by simp <;> omega
  have e1 : IntKind.wrap .i64 (8 - (k : Int)) = 8 - (k : Int) := wrap64 ⟨by omega, by omega⟩
  have h4 : decide (8 - (k : Int) < (m : Int)) = false := by simp <;> omega
  have hg := fun n => l03Code n k m hk hm
  generalize hkm : k + m = km at hg ⊢
  simp [F9, h1, h2, h3, h4, e1, rcall29, hg]
theorem implBad (n : Nat) (k m : Int) (hk : -9223372036854775808 ≤ k ∧ k ≤ 9223372036854775807) (hm : -9223372036854775808 ≤ m ∧ m ≤ 9223372036854775807) (h : ¬ (1 ≤ k ∧ 0 ≤ m ∧ k + m ≤ 8)) : call code (n + 6) 10 [.int .i64 k, .int .i64 m] [] =
    some ⟨.tup [.agg [.int .i64 0, .int .i64 0, .sl 0 0 0 [] 0 0], .int .i64 2], [⟨0, 1, false, true, []⟩], []⟩ := by
  refine call_run rfl fn10 rfl ?_
  cases h1 : inB k 1 8
  · simp [F10, rcall30, between, h1]
  · have hk2 : 1 ≤ k ∧ k ≤ 8 := by simpa [inB] using h1
    have e1 : IntKind.wrap .i64 (8 - (k : Int)) = 8 - (k : Int) := wrap64 ⟨by omega, by omega⟩
    have h2 : inB m 0 (8 - (k : Int)) = false := by simp [inB]; omega
    simp [F10, rcall30, between, h1, h2, e1]
theorem specBad (n : Nat) (k m : Int) (hk : -9223372036854775808 ≤ k ∧ k ≤ 9223372036854775807) (hm : -9223372036854775808 ≤ m ∧ m ≤ 9223372036854775807) (h : ¬ (1 ≤ k ∧ 0 ≤ m ∧ k + m ≤ 8)) : call code (n + 5) 9 [.int .i64 k, .int .i64 m] [] =
    some ⟨.tup [.agg [.int .i64 0, .int .i64 0, .sl 0 0 0 [] 0 0], .int .i64 2], [⟨0, 1, false, true, []⟩], []⟩ := by
  refine call_run rfl fn9 rfl ?_
  cases h1 : decide ((k : Int) < 1)
  · cases h2 : decide ((m : Int) < 0)
    · cases h3 : decide ((8 : Int) < (k : Int))
      · simp only [decide_eq_false_iff_not] at h1 h2 h3
        have e1 : IntKind.wrap .i64 (8 - (k : Int)) = 8 - (k : Int) := wrap64 ⟨by omega, by omega⟩
        have h4 : decide (8 - (k : Int) < (m : Int)) = true := by simp <;> omega
        have h1' : decide ((k : Int) < 1) = false := by simp <;> omega
        have h2' : decide ((m : Int) < 0) = false := by simp <;> omega
        have h3' : decide ((8 : Int) < (k : Int)) = false := by simp <;> omega
        simp [F9, h1', h2', h3', h4, e1]
      · simp [F9, h1, h2, h3]
    · simp [F9, h1, h2]
  · simp [F9, h1]
end Go.Ae.R2
