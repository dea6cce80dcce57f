/- The generator matrix of a code, twice told. -/
import Derived.Test.YtgmfljabhcamlaaC1D
namespace Go.Ae.C1
set_option linter.unusedSimpArgs false
set_option linter.unusedVariables false
def entry (k a b : Nat) : Nat := gm (k + a) (inv ((k + a) ^^^ b))
def gz (k i j : Nat) : List Int := uz k k ++ ((List.range i).flatMap fun a => (List.range k).map fun b => ((entry k a b : Nat) : Int)) ++ ((List.range j).map fun b => ((entry k i b : Nat) : Int))
theorem sum_const (k : Nat) : ∀ i, ((List.range i).map fun _ => k).sum = i * k
  | 0 => by simp
  | i + 1 => by rw [List.range_succ, List.map_append, List.sum_append, sum_const k i]; simp [Nat.add_mul]
theorem gz_len (k i j : Nat) : (gz k i j).length = k * k + i * k + j := by
  simp [gz, uz, List.length_flatMap, sum_const]; omega
theorem gz_row (k i : Nat) : gz k i k = gz k (i + 1) 0 := by
  simp [gz, List.range_succ]
theorem gz_one (k i j : Nat) : rowsZ (gz k i j) ++ [[.int .i64 ((entry k i j : Nat) : Int)]] = rowsZ (gz k i (j + 1)) := by
  simp [gz, List.range_succ, rowsZ]
theorem generator (n : Nat) (k m : Nat) (hk : 1 ≤ k) (hm : k + m ≤ 8) :
    call code (n + 5) 140 [.int .i64 k, .int .i64 m] [] = some ⟨.agg [.int .i64 (k + m : Nat), .int .i64 k, .sl 0 0 0 [] 0 (gz k m 0).length], [⟨0, 1, false, true, rowsZ (gz k m 0)⟩], []⟩ := by
  refine call_run rfl fn140 rfl ?_
  have hu := fun n => unit n k ⟨hk, by omega⟩
  have e1 : IntKind.wrap .i64 ((k : Int) + (m : Int)) = ((k + m : Nat) : Int) := by rw [wrap64 ⟨by omega, by omega⟩]; omega
  have hu0 : uz k k = gz k 0 0 := by simp [gz]
  have hul : k * k = (gz k 0 0).length := by rw [gz_len]; simp
  rw [hu0, hul] at hu
  generalize hkm : k + m = km at e1 ⊢
  simp [F140, rcall161, hu, e1]
  refine RunC_loop (fun i : Nat => ⟨[.int .i64 k, .undef, .undef, .undef, .ptr 0 0 0 [] 0 0, .ptr 0 66048 0 [] 0 0, .undef, .undef, .undef, .undef, .undef, .undef, .undef, .undef, .int .i64 m, .int .i64 i] ++ List.replicate 24 .undef,
      [(0, some ⟨0, 3, true, false, [[.int .i64 0, .int .i64 0, .sl 0 3 0 [] 0 0]]⟩), (3, some ⟨0, 1, false, true, []⟩), (65792, some ⟨0, 1, false, true, rowsZ (gz k i 0)⟩), (66048, some ⟨0, 3, true, false, [[.int .i64 km, .int .i64 k, .sl 0 65792 0 [] 0 (gz k i 0).length]]⟩), (66051, some ⟨0, 1, false, true, []⟩)], []⟩)
    (fun i => i ≤ m) (fun i => m - i) 0 (Nat.zero_le _) (by simp; omega) (by simp) fun i hi _ => ?_
  by_cases hlt : i < m
  · simp [hlt]
    refine RunC_loop (fun j : Nat => ⟨[.int .i64 k, .undef, .undef, .undef, .ptr 0 0 0 [] 0 0, .ptr 0 66048 0 [] 0 0, .int .i64 i, .undef, .undef, .undef, .undef, .undef, .undef, .undef, .int .i64 m, .int .i64 i, .undef, .undef, .int .i64 k, .int .i64 j] ++ List.replicate 20 .undef,
      [(0, some ⟨0, 3, true, false, [[.int .i64 0, .int .i64 0, .sl 0 3 0 [] 0 0]]⟩), (3, some ⟨0, 1, false, true, []⟩), (65792, some ⟨0, 1, false, true, rowsZ (gz k i j)⟩), (66048, some ⟨0, 3, true, false, [[.int .i64 km, .int .i64 k, .sl 0 65792 0 [] 0 (gz k i j).length]]⟩), (66051, some ⟨0, 1, false, true, []⟩)], []⟩)
      (fun j => j ≤ k) (fun j => k - j) 0 (Nat.zero_le _) (by simp; omega) (by simp) fun j hj _ => ?_
    by_cases hlt2 : j < k
    · have e2 : IntKind.wrap .i64 ((k : Int) + (i : Int)) = ((k + i : Nat) : Int) := by rw [wrap64 ⟨by omega, by omega⟩]; omega
      have e3 : gXor .i64 ((k + i : Nat) : Int) (j : Int) = (((k + i) ^^^ j : Nat) : Int) := gXor64 (by omega) (by omega)
      have x1 : (k + i) ^^^ j < 256 := Nat.xor_lt_two_pow (n := 8) (by omega) (by omega)
      have hi1 := fun n => inverse n ((k + i) ^^^ j) x1
      have hi2 := inv_lt x1
      have ht := fun n => times n (k + i) (inv ((k + i) ^^^ j)) (by omega) hi2
      have hone := gz_one k i j
      have hl1 := gz_len k i j
      have hl2 := gz_len k i (j + 1)
      have hs := idx_succ hlt2 (by omega)
      have hrl := rowsZ_len (gz k i j)
      have hb : k * k ≤ 64 := (uz_lt k (by omega) 0 (by omega)).2.2
      have hb2 : i * k ≤ 8 * 8 := Nat.mul_le_mul (by omega) (by omega)
      have hll : (gz k i j).length ≤ 1000 := by omega
      have hl3 : (gz k i j).length + 1 = (gz k i (j + 1)).length := by omega
      simp only [entry] at hone
      generalize gm (k + i) (inv ((k + i) ^^^ j)) = pr at *
      generalize inv ((k + i) ^^^ j) = iv at *
      generalize (k + i) ^^^ j = xr at *
      generalize hki : k + i = ki at *
      generalize (gz k i j).length = L at *
      simp [hlt2, hs, e2, e3, rcall163, hi1, rcall158, ht, source, evalW, hrl, hone]
      exact ⟨⟨by omega, by omega⟩, j + 1, by omega, by omega, by simp, rfl, hl3⟩
    · have : j = k := by omega
      subst this
      have hs := idx_succ hlt (by omega)
      have hrow := gz_row j i
      simp [hs]
      exact ⟨i + 1, by omega, by omega, by simp, by rw [hrow], by rw [hrow]⟩
  · have : i = m := by omega
    subst this
    simp
theorem l03Code (n : Nat) (k m : Nat) (hk : 1 ≤ k) (hm : k + m ≤ 8) :
    call code (n + 4) 121 [.int .i64 k, .int .i64 m] [] = some ⟨.agg [.int .i64 (k + m : Nat), .int .i64 k, .sl 0 0 0 [] 0 (gz k m 0).length], [⟨0, 1, false, true, rowsZ (gz k m 0)⟩], []⟩ := by
  refine call_run rfl fn121 rfl ?_
  have hu := fun n => l03Unit n k ⟨hk, by omega⟩
  have e1 : IntKind.wrap .i64 ((k : Int) + (m : Int)) = ((k + m : Nat) : Int) := by rw [wrap64 ⟨by omega, by omega⟩]; omega
  have hu0 : uz k k = gz k 0 0 := by simp [gz]
  have hul : k * k = (gz k 0 0).length := by rw [gz_len]; simp
  rw [hu0, hul] at hu
  generalize hkm : k + m = km at e1 ⊢
  simp [F121, rcall150, hu, e1]
  refine RunC_loop (fun i : Nat => ⟨[.int .i64 k, .int .i64 m, .undef, .undef, .ptr 0 0 0 [] 0 0, .ptr 0 66048 0 [] 0 0, .int .i64 i] ++ List.replicate 33 .undef,
      [(0, some ⟨0, 3, true, false, [[.int .i64 0, .int .i64 0, .sl 0 3 0 [] 0 0]]⟩), (3, some ⟨0, 1, false, true, []⟩), (65792, some ⟨0, 1, false, true, rowsZ (gz k i 0)⟩), (66048, some ⟨0, 3, true, false, [[.int .i64 km, .int .i64 k, .sl 0 65792 0 [] 0 (gz k i 0).length]]⟩), (66051, some ⟨0, 1, false, true, []⟩)], []⟩)
    (fun i => i ≤ m) (fun i => m - i) 0 (Nat.zero_le _) (by simp; omega) (by simp) fun i hi _ => ?_
  by_cases hlt : i < m
  · simp [hlt]
    refine RunC_loop (fun j : Nat => ⟨[.int .i64 k, .int .i64 m, .undef, .undef, .ptr 0 0 0 [] 0 0, .ptr 0 66048 0 [] 0 0, .int .i64 i, .int .i64 j] ++ List.replicate 32 .undef,
      [(0, some ⟨0, 3, true, false, [[.int .i64 0, .int .i64 0, .sl 0 3 0 [] 0 0]]⟩), (3, some ⟨0, 1, false, true, []⟩), (65792, some ⟨0, 1, false, true, rowsZ (gz k i j)⟩), (66048, some ⟨0, 3, true, false, [[.int .i64 km, .int .i64 k, .sl 0 65792 0 [] 0 (gz k i j).length]]⟩), (66051, some ⟨0, 1, false, true, []⟩)], []⟩)
      (fun j => j ≤ k) (fun j => k - j) 0 (Nat.zero_le _) (by simp; omega) (by simp) fun j hj _ => ?_
    by_cases hlt2 : j < k
    · have e2 : IntKind.wrap .i64 ((k : Int) + (i : Int)) = ((k + i : Nat) : Int) := by rw [wrap64 ⟨by omega, by omega⟩]; omega
      have e3 : gXor .i64 ((k + i : Nat) : Int) (j : Int) = (((k + i) ^^^ j : Nat) : Int) := gXor64 (by omega) (by omega)
      have x1 : (k + i) ^^^ j < 256 := Nat.xor_lt_two_pow (n := 8) (by omega) (by omega)
      have hi1 := fun n => l02Inv n ((k + i) ^^^ j) x1
      have hi2 := inv_lt x1
      have ht := fun n => l02Times n (k + i) (inv ((k + i) ^^^ j)) (by omega) hi2
      have hone := gz_one k i j
      have hl1 := gz_len k i j
      have hl2 := gz_len k i (j + 1)
      have hs := idx_succ hlt2 (by omega)
      have hrl := rowsZ_len (gz k i j)
      have hb : k * k ≤ 64 := (uz_lt k (by omega) 0 (by omega)).2.2
      have hb2 : i * k ≤ 8 * 8 := Nat.mul_le_mul (by omega) (by omega)
      have hll : (gz k i j).length ≤ 1000 := by omega
      have hl3 : (gz k i j).length + 1 = (gz k i (j + 1)).length := by omega
      simp only [entry] at hone
      generalize gm (k + i) (inv ((k + i) ^^^ j)) = pr at *
      generalize inv ((k + i) ^^^ j) = iv at *
      generalize (k + i) ^^^ j = xr at *
      generalize hki : k + i = ki at *
      generalize (gz k i j).length = L at *
      simp [hlt2, hs, e2, e3, rcall152, hi1, rcall151, ht, source, evalW, hrl, hone]
      exact ⟨⟨by omega, by omega⟩, j + 1, by omega, by omega, by simp, rfl, hl3⟩
    · have : j = k := by omega
      subst this
      have hs := idx_succ hlt (by omega)
      have hrow := gz_row j i
      simp [hs]
      exact ⟨i + 1, by omega, by omega, by simp, by rw [hrow], by rw [hrow]⟩
  · have : i = m := by omega
    subst this
    simp
end Go.Ae.C1
