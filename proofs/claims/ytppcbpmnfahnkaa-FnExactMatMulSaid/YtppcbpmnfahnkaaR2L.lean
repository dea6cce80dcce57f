/- MatMul, the program's and the reference's, for all matrices. -/
import Derived.Test.YtppcbpmnfahnkaaR2K
namespace Go.Ae.R2
set_option linter.unusedSimpArgs false
set_option linter.unusedVariables false
def res (h w : Int) (cs : List Int) (e : Int) : Res := ⟨.tup [.agg [.int .i64 h, .int .i64 w, .sl 0 0 0 [] 0 cs.length], .int .i64 e], [⟨0, 1, false, true, rowsZ cs⟩], []⟩
/-- What both answer. -/
def Mul (h1 w1 : Int) (ws1 : List Int) (h2 w2 : Int) (ws2 : List Int) (r : Res) : Prop :=
  ∃ h w cs e, r = res h w cs e ∧ cs.length ≤ 1000 ∧
    (∀ n, call code (n + 7) 17 [.agg [.int .i64 h1, .int .i64 w1, .rd true (rowsZ ws1)], .agg [.int .i64 h2, .int .i64 w2, .rd true (rowsZ ws2)]] [] = some r) ∧
    (∀ n, call code (n + 7) 15 [.agg [.int .i64 h1, .int .i64 w1, .rd true (rowsZ ws1)], .agg [.int .i64 h2, .int .i64 w2, .rd true (rowsZ ws2)]] [] = some r)
theorem nat_of {ws : List Int} (h : ws.all elB = true) : ∃ an : List Nat, ws = castL an ∧ ∀ x ∈ an, x < 256 := by
  refine ⟨ws.map Int.toNat, ?_, fun x hx => ?_⟩
  · simp only [castL, List.map_map]
    refine (List.map_id ws).symm.trans (List.map_congr_left fun x hx => ?_)
    have := List.all_eq_true.1 h x hx
    simp [elB, inB] at this
    simp; omega
  · obtain ⟨y, hy, rfl⟩ := List.mem_map.1 hx
    have := List.all_eq_true.1 h y hy
    simp [elB, inB] at this
    omega
theorem bad (h1 w1 : Int) (ws1 : List Int) (h2 w2 : Int) (ws2 : List Int) (hn1 : ws1.length ≤ 1048576) (hn2 : ws2.length ≤ 1048576) (e : Int)
    (h : (matB h1 w1 ws1 && matB h2 w2 ws2) = false ∧ e = 1 ∨ (matB h1 w1 ws1 && matB h2 w2 ws2) = true ∧ h2 ≠ w1 ∧ e = 2) : Mul h1 w1 ws1 h2 w2 ws2 (res 0 0 [] e) := by
  have i1 := fun n => matrixOk n h1 w1 ws1 hn1
  have i2 := fun n => matrixOk n h2 w2 ws2 hn2
  have s1 := fun n => l03OK n h1 w1 ws1 hn1
  have s2 := fun n => l03OK n h2 w2 ws2 hn2
  have hr0 : rowsZ [] = [] := rfl
  refine ⟨0, 0, [], e, rfl, by simp, fun n => call_run rfl fn17 rfl ?_, fun n => call_run rfl fn15 rfl ?_⟩
  · rcases h with ⟨h, rfl⟩ | ⟨h, hne, rfl⟩
    · cases hA : matB h1 w1 ws1
      · simp [F17, rcall39, i1, hA, res, hr0]
      · have hB : matB h2 w2 ws2 = false := by simpa [hA] using h
        simp [F17, rcall39, i1, i2, hA, hB, res, hr0]
    · simp only [Bool.and_eq_true] at h
      have hb : (h2 != w1) = true := by simpa using hne
      simp [F17, rcall39, i1, i2, h.1, h.2, hb, res, hr0]
  · rcases h with ⟨h, rfl⟩ | ⟨h, hne, rfl⟩
    · cases hA : matB h1 w1 ws1
      · simp [F15, rcall36, s1, hA, res, hr0]
      · have hB : matB h2 w2 ws2 = false := by simpa [hA] using h
        simp [F15, rcall36, s1, s2, hA, hB, res, hr0]
    · simp only [Bool.and_eq_true] at h
      have hb : (h2 != w1) = true := by simpa using hne
      have hb2 : (w1 != h2) = true := by simpa using Ne.symm hne
      simp [F15, rcall36, s1, s2, h.1, h.2, hb, hb2, res, hr0]
theorem good (h1 w1 : Int) (ws1 : List Int) (w2 : Int) (ws2 : List Int) (hA : matB h1 w1 ws1 = true) (hB : matB w1 w2 ws2 = true) : ∃ r, Mul h1 w1 ws1 w1 w2 ws2 r := by
  have qA := hA
  have qB := hB
  simp only [matB, Bool.and_eq_true, beq_iff_eq] at qA qB
  obtain ⟨⟨⟨a1, a2⟩, a3⟩, a4⟩ := qA
  obtain ⟨⟨⟨b1, b2⟩, b3⟩, b4⟩ := qB
  obtain ⟨an, rfl, ha⟩ := nat_of a4
  obtain ⟨bn, rfl, hb⟩ := nat_of b4
  simp [inB] at a1 a2 b2
  obtain ⟨h1, rfl⟩ : ∃ q : Nat, h1 = (q : Int) := ⟨h1.toNat, by omega⟩
  obtain ⟨w1, rfl⟩ : ∃ q : Nat, w1 = (q : Int) := ⟨w1.toNat, by omega⟩
  obtain ⟨w2, rfl⟩ : ∃ q : Nat, w2 = (q : Int) := ⟨w2.toNat, by omega⟩
  rw [castL_len] at a3 b3
  have la : an.length = h1 * w1 := by exact_mod_cast a3
  have lb : bn.length = w1 * w2 := by exact_mod_cast b3
  have c1 : h1 * w1 ≤ 8 * 8 := Nat.mul_le_mul (by omega) (by omega)
  have c2 : w1 * w2 ≤ 8 * 8 := Nat.mul_le_mul (by omega) (by omega)
  have c3 : h1 * w2 ≤ 8 * 8 := Nat.mul_le_mul (by omega) (by omega)
  have hl := mz_len an bn w1 w2 h1 0
  refine ⟨res h1 w2 (mz an bn w1 w2 h1 0) 0, h1, w2, mz an bn w1 w2 h1 0, 0, rfl, by omega, fun n => ?_, fun n => call_run rfl fn15 rfl ?_⟩
  · exact implMulOk n h1 w1 w2 an bn (by omega) (by omega) (by omega) ha hb la lb hA hB (by omega) (by omega)
  · have s1 := fun n => l03OK n h1 w1 (castL an) (by rw [castL_len]; omega)
    have s2 := fun n => l03OK n w1 w2 (castL bn) (by rw [castL_len]; omega)
    have sm := fun n => l03Mul n h1 w1 w2 an bn (by omega) (by omega) (by omega) ha hb la lb
    generalize mz an bn w1 w2 h1 0 = ms at *
    simp [F15, rcall36, s1, s2, hA, hB, rcall37, sm, res]
theorem mul_all (h1 w1 : Int) (ws1 : List Int) (h2 w2 : Int) (ws2 : List Int) (hn1 : ws1.length ≤ 1048576) (hn2 : ws2.length ≤ 1048576) : ∃ r, Mul h1 w1 ws1 h2 w2 ws2 r := by
  cases hc : (matB h1 w1 ws1 && matB h2 w2 ws2)
  · exact ⟨_, bad h1 w1 ws1 h2 w2 ws2 hn1 hn2 1 (.inl ⟨hc, rfl⟩)⟩
  · by_cases he : h2 = w1
    · subst he
      simp only [Bool.and_eq_true] at hc
      exact good h1 h2 ws1 w2 ws2 hc.1 hc.2
    · exact ⟨_, bad h1 w1 ws1 h2 w2 ws2 hn1 hn2 2 (.inr ⟨hc, he, rfl⟩)⟩
end Go.Ae.R2
