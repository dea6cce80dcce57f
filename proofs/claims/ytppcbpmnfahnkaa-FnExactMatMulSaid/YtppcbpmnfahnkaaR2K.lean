/- The product of two matrices, as the program reckons it. -/
import Derived.Test.YtppcbpmnfahnkaaR2J
namespace Go.Ae.R2
set_option linter.unusedSimpArgs false
set_option linter.unusedVariables false
set_option maxRecDepth 100000 in
set_option maxHeartbeats 4000000 in
theorem implMulOk (n : Nat) (h1 w1 w2 : Nat) (an bn : List Nat) (hh1 : h1 ≤ 8) (hw1 : w1 ≤ 8) (hw2 : w2 ≤ 8) (ha : ∀ x ∈ an, x < 256) (hb : ∀ x ∈ bn, x < 256) (la : an.length = h1 * w1) (lb : bn.length = w1 * w2) (va : matB h1 w1 (castL an) = true) (vb : matB w1 w2 (castL bn) = true) (hza : h1 * w1 ≤ 1048576) (hzb : w1 * w2 ≤ 1048576) :
    call code (n + 7) 17 [.agg [.int .i64 h1, .int .i64 w1, .rd true (rowsZ (castL an))], .agg [.int .i64 w1, .int .i64 w2, .rd true (rowsZ (castL bn))]] [] =
      some ⟨.tup [.agg [.int .i64 h1, .int .i64 w2, .sl 0 0 0 [] 0 (mz an bn w1 w2 h1 0).length], .int .i64 0], [⟨0, 1, false, true, rowsZ (mz an bn w1 w2 h1 0)⟩], []⟩ := by
  refine call_run rfl fn17 rfl ?_
  have rla : (rowsZ (castL an)).length = h1 * w1 := by rw [rowsZ_len, castL_len, la]
  have rlb : (rowsZ (castL bn)).length = w1 * w2 := by rw [rowsZ_len, castL_len, lb]
  have hma := fun n => matrixOk n h1 w1 (castL an) (by rw [castL_len, la]; exact hza)
  have hmb := fun n => matrixOk n w1 w2 (castL bn) (by rw [castL_len, lb]; exact hzb)
  rw [va] at hma
  rw [vb] at hmb
  simp [F17, rcall39, hma, hmb]
  refine RunC_loop (fun i : Nat => ⟨[.undef, .undef, .ptr 0 0 0 [] 0 0, .ptr 0 256 0 [] 0 0, .ptr 0 512 0 [] 0 0, .undef, .ptr 0 328960 0 [] 0 0] ++ List.replicate 28 .undef ++ [.int .i64 h1, .int .i64 i] ++ List.replicate 36 .undef,
      [(0, some ⟨0, 3, true, false, [[.int .i64 h1, .int .i64 w1, .rd true (rowsZ (castL an))]]⟩), (256, some ⟨0, 3, true, false, [[.int .i64 w1, .int .i64 w2, .rd true (rowsZ (castL bn))]]⟩), (512, some ⟨0, 3, true, false, [[.int .i64 0, .int .i64 0, .sl 0 515 0 [] 0 0]]⟩), (515, some ⟨0, 1, false, true, []⟩), (328960, some ⟨0, 3, true, false, [[.int .i64 h1, .int .i64 w2, .sl 0 329219 0 [] 0 (mz an bn w1 w2 i 0).length]]⟩), (328963, some ⟨0, 1, false, true, []⟩), (329219, some ⟨0, 1, false, true, rowsZ (mz an bn w1 w2 i 0)⟩)], []⟩)
    (fun i => i ≤ h1) (fun i => h1 - i) 0 (Nat.zero_le _) (by simp; omega) (by simp [mz, rowsZ]) fun i hi _ => ?_
  by_cases hlt : i < h1
  · simp [hlt]
    refine RunC_loop (fun j : Nat => ⟨[.undef, .undef, .ptr 0 0 0 [] 0 0, .ptr 0 256 0 [] 0 0, .ptr 0 512 0 [] 0 0, .undef, .ptr 0 328960 0 [] 0 0, .int .i64 i] ++ List.replicate 27 .undef ++ [.int .i64 h1, .int .i64 i, .undef, .undef, .undef, .int .i64 w2, .int .i64 j] ++ List.replicate 31 .undef,
      [(0, some ⟨0, 3, true, false, [[.int .i64 h1, .int .i64 w1, .rd true (rowsZ (castL an))]]⟩), (256, some ⟨0, 3, true, false, [[.int .i64 w1, .int .i64 w2, .rd true (rowsZ (castL bn))]]⟩), (512, some ⟨0, 3, true, false, [[.int .i64 0, .int .i64 0, .sl 0 515 0 [] 0 0]]⟩), (515, some ⟨0, 1, false, true, []⟩), (328960, some ⟨0, 3, true, false, [[.int .i64 h1, .int .i64 w2, .sl 0 329219 0 [] 0 (mz an bn w1 w2 i j).length]]⟩), (328963, some ⟨0, 1, false, true, []⟩), (329219, some ⟨0, 1, false, true, rowsZ (mz an bn w1 w2 i j)⟩)], []⟩)
      (fun j => j ≤ w2) (fun j => w2 - j) 0 (Nat.zero_le _) (by simp; omega) (by simp) fun j hj _ => ?_
    by_cases hlt2 : j < w2
    · have r1 : (i + 1) * w1 ≤ h1 * w1 := Nat.mul_le_mul_right _ hlt
      have r2 : h1 * w1 ≤ 8 * 8 := Nat.mul_le_mul hh1 hw1
      have hrow1 := fun n l => rowRd n l (h1 : Int) w1 i an (by omega) (by rw [la]; exact r1) (by rw [la]; omega) (by omega)
      have hpl : (rowsZ (castL (prt an (i * w1) ((i + 1) * w1)))).length = w1 := by
        rw [rowsZ_len, castL_len, prt_len (by rw [la]; exact r1), Nat.add_mul]; omega
      simp [hlt2, rcall40, hrow1, hpl]
      refine RunC_loop (fun q : Nat => ⟨[.undef, .undef, .ptr 0 0 0 [] 0 0, .ptr 0 256 0 [] 0 0, .ptr 0 512 0 [] 0 0, .undef, .ptr 0 328960 0 [] 0 0, .int .i64 i, .int .i64 j, .int .i64 (dot an bn w1 w2 i j q : Nat)] ++ List.replicate 25 .undef ++ [.int .i64 h1, .int .i64 i, .undef, .undef, .undef, .int .i64 w2, .int .i64 j, .undef, .undef, .undef, .undef, .rd true (rowsZ (castL (prt an (i * w1) ((i + 1) * w1)))), .int .i64 w1, .int .i64 q] ++ List.replicate 24 .undef,
        [(0, some ⟨0, 3, true, false, [[.int .i64 h1, .int .i64 w1, .rd true (rowsZ (castL an))]]⟩), (256, some ⟨0, 3, true, false, [[.int .i64 w1, .int .i64 w2, .rd true (rowsZ (castL bn))]]⟩), (512, some ⟨0, 3, true, false, [[.int .i64 0, .int .i64 0, .sl 0 515 0 [] 0 0]]⟩), (515, some ⟨0, 1, false, true, []⟩), (328960, some ⟨0, 3, true, false, [[.int .i64 h1, .int .i64 w2, .sl 0 329219 0 [] 0 (mz an bn w1 w2 i j).length]]⟩), (328963, some ⟨0, 1, false, true, []⟩), (329219, some ⟨0, 1, false, true, rowsZ (mz an bn w1 w2 i j)⟩)], []⟩)
        (fun q => q ≤ w1) (fun q => w1 - q) 0 (Nat.zero_le _) (by simp; omega) (by simp [dot]) fun q hq _ => ?_
      by_cases hlt3 : q < w1
      · have b1 : i * w1 ≤ 8 * 8 := Nat.mul_le_mul (by omega) hw1
        have b2 : q * w2 ≤ 8 * 8 := Nat.mul_le_mul (by omega) hw2
        have c0 : i * w1 + q < (i + 1) * w1 := by rw [Nat.add_mul]; omega
        have c2 : q * w2 + j < (q + 1) * w2 := by rw [Nat.add_mul]; omega
        have c3 : (q + 1) * w2 ≤ w1 * w2 := Nat.mul_le_mul_right _ hlt3
        have c4 : w1 * w2 ≤ 8 * 8 := Nat.mul_le_mul hw1 hw2
        have hrow2 := fun n l => rowRd n l (w1 : Int) w2 q bn (by omega) (by rw [lb]; exact c3) (by rw [lb]; omega) (by omega)
        have g1 : ∀ h, (rowsZ (castL (prt an (i * w1) ((i + 1) * w1))))[q]'h = [AV.int .i64 ((an.getD (i * w1 + q) 0 : Nat) : Int)] := fun h => by
          rw [← prt_get c0]
          exact rowsC_at (by rw [rowsZ_len, castL_len] at h; exact h) h
        have hpl2 : (rowsZ (castL (prt bn (q * w2) ((q + 1) * w2)))).length = w2 := by
          rw [rowsZ_len, castL_len, prt_len (by rw [lb]; exact c3), Nat.add_mul]; omega
        have g2 : ∀ h, (rowsZ (castL (prt bn (q * w2) ((q + 1) * w2))))[j]'h = [AV.int .i64 ((bn.getD (q * w2 + j) 0 : Nat) : Int)] := fun h => by
          rw [← prt_get c2]
          exact rowsC_at (by rw [rowsZ_len, castL_len] at h; exact h) h
        have u1 := getD_lt ha (i * w1 + q)
        have u2 := getD_lt hb (q * w2 + j)
        have hd0 := dot_lt (bn := bn) ha w1 w2 i j q
        have ht := fun n => times n (an.getD (i * w1 + q) 0) (bn.getD (q * w2 + j) 0) u1 u2
        have hgl := gm_lt (b := bn.getD (q * w2 + j) 0) u1
        have hds : dot an bn w1 w2 i j (q + 1) = dot an bn w1 w2 i j q ^^^ gm (an.getD (i * w1 + q) 0) (bn.getD (q * w2 + j) 0) := rfl
        generalize gm (an.getD (i * w1 + q) 0) (bn.getD (q * w2 + j) 0) = pr at *
        generalize an.getD (i * w1 + q) 0 = av at *
        generalize bn.getD (q * w2 + j) 0 = bv at *
        generalize hd1 : dot an bn w1 w2 i j (q + 1) = d1 at *
        generalize dot an bn w1 w2 i j q = d0 at *
        have e5 : gXor .i64 (d0 : Int) (pr : Int) = ((d0 ^^^ pr : Nat) : Int) := gXor64 (by omega) (by omega)
        rw [← hds] at e5
        have hs := idx_succ hlt3 (by omega)
        generalize prt bn (q * w2) ((q + 1) * w2) = pb at *
        generalize prt an (i * w1) ((i + 1) * w1) = pa at *
        simp [hlt3, hlt2, e5, hs, hpl, hpl2, g1, g2, rcall40, hrow2, rcall41, ht]
        exact ⟨q + 1, by omega, by omega, by rw [hd1], by simp⟩
      · have : q = w1 := by omega
        subst this
        have hone := mz_one an bn q w2 i j
        have hl1 := mz_len an bn q w2 i j
        have hl2 := mz_len an bn q w2 i (j + 1)
        have hrl := rowsZ_len (mz an bn q w2 i j)
        have hs := idx_succ hlt2 (by omega)
        have b1 : i * w2 ≤ 8 * 8 := Nat.mul_le_mul (by omega) hw2
        have hl3 : (mz an bn q w2 i j).length + 1 = (mz an bn q w2 i (j + 1)).length := by omega
        have hll : (mz an bn q w2 i j).length ≤ 1000 := by omega
        generalize (mz an bn q w2 i j).length = L at *
        generalize dot an bn q w2 i j q = dd at *
        simp [hs, source, evalW, hrl, hone]
        exact ⟨⟨by omega, by omega⟩, j + 1, by omega, by omega, by simp, hl3, rfl⟩
    · have : j = w2 := by omega
      subst this
      have hs := idx_succ hlt (by omega)
      have hrow := mz_row an bn w1 j i
      simp [hs]
      exact ⟨i + 1, by omega, by omega, by simp, by rw [hrow], by rw [hrow]⟩
  · have : i = h1 := by omega
    subst this
    simp
end Go.Ae.R2
