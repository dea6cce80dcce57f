/- Matrices: compared, marked, looked at again; a row of one; the unit one, twice told. -/
import Derived.Test.YtgmfljabhcamlaaC1C
namespace Go.Ae.C1
set_option linter.unusedSimpArgs false
set_option linter.unusedVariables false
/-- A row of a matrix: a part of its cells. -/
theorem row (k : Nat) (l : Heap) (S : Nat) (h : Int) (w i m : Nat) (ws : List Int) (hlen : ws.length = m) (hw : w ≤ 1000) (hi : (i + 1) * w ≤ ws.length) (hn : ws.length ≤ 4000000) (hl : l.get S = some (some ⟨0, 1, false, true, rowsZ ws⟩)) (hi2 : i ≤ 1000) :
    call code (k + 1) 134 [.agg [.int .i64 h, .int .i64 w, .sl 1 S 0 [] 0 m], .int .i64 i] [l] = some ⟨.sl 1 S 0 [] (i * w) w, [], [l]⟩ := by
  subst hlen
  refine call_run rfl fn134 rfl ?_
  have hm1 : i * w ≤ 4000000 := by rw [Nat.add_mul] at hi; omega
  have e1 : IntKind.wrap .i64 ((i : Int) * (w : Int)) = ((i * w : Nat) : Int) := by rw [show (i : Int) * (w : Int) = ((i * w : Nat) : Int) by simp, wrap64 ⟨by omega, by omega⟩]
  have e2 : IntKind.wrap .i64 ((i : Int) + 1) = ((i + 1 : Nat) : Int) := by rw [wrap64 ⟨by omega, by omega⟩]; omega
  have e3 : IntKind.wrap .i64 (((i + 1 : Nat) : Int) * (w : Int)) = (((i + 1) * w : Nat) : Int) := by rw [show ((i + 1 : Nat) : Int) * (w : Int) = (((i + 1) * w : Nat) : Int) by simp, wrap64 ⟨by omega, by omega⟩]
  have hsub : (i + 1) * w - i * w = w := by rw [Nat.add_mul]; omega
  have hle : i * w ≤ (i + 1) * w := by rw [Nat.add_mul]; omega
  have hrl := rowsZ_len ws
  generalize hA : i * w = A at *
  generalize hB : (i + 1) * w = B at *
  generalize hI : i + 1 = I1 at *
  simp [F134, e1, e2, e3, hl, hrl, hi, hle, hsub]
def uz (n i : Nat) : List Int := (List.range (n * n)).map fun idx => if idx / n = idx % n ∧ idx / n < i then 1 else 0
theorem uz_len (n i : Nat) : (uz n i).length = n * n := by simp [uz]
theorem uz_set : ∀ n, n < 9 → ∀ i, i < n → (uz n i).set (i * n + i) 1 = uz n (i + 1) := by decide +kernel
theorem uz_lt : ∀ n, n < 9 → ∀ i, i < n → i * n + i < n * n ∧ (i + 1) * n ≤ n * n ∧ n * n ≤ 64 := by decide
theorem uz_zero : ∀ n, n < 9 → uz n 0 = List.replicate (n * n) 0 := by decide +kernel
theorem rowsZ_rep (m : Nat) : rowsZ (List.replicate m 0) = List.replicate m [.int .i64 0] := by simp [rowsZ]
theorem unit (k : Nat) (n : Nat) (hn : 1 ≤ n ∧ n < 9) : call code (k + 2) 161 [.int .i64 n] [] = some ⟨.agg [.int .i64 n, .int .i64 n, .sl 0 0 0 [] 0 (n * n)], [⟨0, 1, false, true, rowsZ (uz n n)⟩], []⟩ := by
  refine call_run rfl fn161 rfl ?_
  have hnn : n * n ≤ 64 := (uz_lt n hn.2 0 hn.1).2.2
  have e1 : IntKind.wrap .i64 ((n : Int) * (n : Int)) = ((n * n : Nat) : Int) := by rw [show (n : Int) * (n : Int) = ((n * n : Nat) : Int) by simp, wrap64 ⟨by omega, by omega⟩]
  have hz := uz_zero n hn.2
  have hlt := uz_lt n hn.2
  have hset := uz_set n hn.2
  have hul := uz_len n
  have hrow := fun k l S i (hi : i < n) => row k l S n n i (n * n) (uz n i) (hul i) (by omega) (by rw [hul]; exact (hlt i hi).2.1) (by rw [hul]; omega)
  generalize n * n = nn at *
  simp [F161, e1, zeroRow]
  refine ⟨⟨by omega, by omega⟩, ?_⟩
  refine RunC_loop (fun i : Nat => ⟨[.undef, .undef, .ptr 0 0 0 [] 0 0, .ptr 0 67328 0 [] 0 0, .undef, .undef, .undef, .undef, .undef, .undef, .undef, .undef, .int .i64 n, .int .i64 i] ++ List.replicate 9 .undef,
      [(0, some ⟨0, 3, true, false, [[.int .i64 0, .int .i64 0, .sl 0 3 0 [] 0 0]]⟩), (3, some ⟨0, 1, false, true, []⟩), (66816, some ⟨0, 1, false, true, rowsZ (uz n i)⟩), (67328, some ⟨0, 3, true, false, [[.int .i64 n, .int .i64 n, .sl 0 66816 0 [] 0 nn]]⟩), (67331, some ⟨0, 1, false, true, []⟩)], []⟩)
    (fun i => i ≤ n) (fun i => n - i) 0 (Nat.zero_le _) (by simp; omega) (by simp [hz, rowsZ_rep]) fun i hi _ => ?_
  by_cases hlt' : i < n
  · obtain ⟨q1, q2, q3⟩ := hlt i hlt'
    have hs := idx_succ hlt' (by omega)
    have hg : ∀ h, (rowsZ (uz n i))[i * n + i]'h = [AV.int .i64 ((uz n i)[i * n + i]'(by rw [hul]; exact q1))] := fun h => rowsZ_at _ h
    have hrl : (rowsZ (uz n i)).length = nn := by rw [rowsZ_len, hul]
    have hst : (rowsZ (uz n i)).set (i * n + i) [.int .i64 1] = rowsZ (uz n (i + 1)) := by rw [rowsZ_set, hset i hlt']
    have hr := fun k l S hl => hrow k l S i hlt' hl (by omega)
    simp [hlt', hs, rcall134, hr, q1, hrl, hg, hst]
    exact ⟨i + 1, by omega, by omega, by simp, rfl⟩
  · have : i = n := by omega
    subst this
    simp
def vz (n c : Nat) : List Int := (List.range c).map fun i => if i % (n + 1) = 0 then 1 else 0
theorem vz_eq : ∀ n, n < 9 → vz n (n * n) = uz n n := by decide +kernel
theorem vz_len (n c : Nat) : (vz n c).length = c := by simp [vz]
theorem vz_one {n c : Nat} (h : c % (n + 1) = 0) : rowsZ (vz n c) ++ [[.int .i64 1]] = rowsZ (vz n (c + 1)) := by simp [vz, List.range_succ, rowsZ, h]
theorem vz_nul {n c : Nat} (h : ¬ c % (n + 1) = 0) : rowsZ (vz n c) ++ [[.int .i64 0]] = rowsZ (vz n (c + 1)) := by simp [vz, List.range_succ, rowsZ, h]
theorem l03Unit (k : Nat) (n : Nat) (hn : 1 ≤ n ∧ n < 9) : call code (k + 1) 150 [.int .i64 n] [] = some ⟨.agg [.int .i64 n, .int .i64 n, .sl 0 0 0 [] 0 (n * n)], [⟨0, 1, false, true, rowsZ (uz n n)⟩], []⟩ := by
  refine call_run rfl fn150 rfl ?_
  have hnn : n * n ≤ 64 := (uz_lt n hn.2 0 hn.1).2.2
  have e1 : IntKind.wrap .i64 ((n : Int) * (n : Int)) = ((n * n : Nat) : Int) := by rw [show (n : Int) * (n : Int) = ((n * n : Nat) : Int) by simp, wrap64 ⟨by omega, by omega⟩]
  have e2 : IntKind.wrap .i64 ((n : Int) + 1) = ((n + 1 : Nat) : Int) := by rw [wrap64 ⟨by omega, by omega⟩]; omega
  have hv := vz_eq n hn.2
  generalize n * n = nn at *
  simp [F150]
  refine RunC_loop (fun i : Nat => ⟨[.int .i64 n, .undef, .ptr 0 0 0 [] 0 0, .ptr 0 66304 0 [] 0 0, .int .i64 i] ++ List.replicate 26 .undef,
      [(0, some ⟨0, 3, true, false, [[.int .i64 0, .int .i64 0, .sl 0 3 0 [] 0 0]]⟩), (3, some ⟨0, 1, false, true, []⟩), (66304, some ⟨0, 3, true, false, [[.int .i64 n, .int .i64 n, .sl 0 66563 0 [] 0 i]]⟩), (66307, some ⟨0, 1, false, true, []⟩), (66563, some ⟨0, 1, false, true, rowsZ (vz n i)⟩)], []⟩)
    (fun i => i ≤ nn) (fun i => nn - i) 0 (Nat.zero_le _) (by simp; omega) (by simp [vz, rowsZ]) fun i hi _ => ?_
  have hrl : (rowsZ (vz n i)).length = i := by rw [rowsZ_len, vz_len]
  by_cases hlt' : i < nn
  · have hs := idx_succ hlt' (by omega)
    have e3 : ((i : Int).tmod ((n + 1 : Nat) : Int)) = ((i % (n + 1) : Nat) : Int) := by rw [Int.tmod_eq_emod_of_nonneg (by omega)]; rfl
    have hz : ¬ ((n + 1 : Nat) : Int) = 0 := by omega
    by_cases hm : i % (n + 1) = 0
    · have hv1 := vz_one hm
      generalize hn1 : n + 1 = n1 at *
      generalize hmm : i % n1 = m at *
      subst hm
      simp [hlt', hs, e1, e2, e3, hz, hrl, source, evalW, hv1]
      exact ⟨by omega, ⟨by omega, by omega⟩, i + 1, by omega, by omega, by simp, rfl, rfl⟩
    · have hv1 := vz_nul hm
      generalize hn1 : n + 1 = n1 at *
      generalize hmm : i % n1 = m at *
      have hmb : ((m : Int) == 0) = false := by simpa using hm
      simp [hlt', hs, e1, e2, e3, hz, hrl, source, evalW, hv1, hmb]
      exact ⟨by omega, ⟨by omega, by omega⟩, i + 1, by omega, by omega, by simp, rfl, rfl⟩
  · have : i = nn := by omega
    subst this
    simp [e1, hv]
end Go.Ae.C1
