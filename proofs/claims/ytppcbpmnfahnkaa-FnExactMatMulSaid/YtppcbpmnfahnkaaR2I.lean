/- The product of two matrices, as the reference reckons it. -/
import Derived.Test.YtppcbpmnfahnkaaR2H
namespace Go.Ae.R2
set_option linter.unusedSimpArgs false
set_option linter.unusedVariables false
def castL (l : List Nat) : List Int := l.map fun (n : Nat) => (n : Int)
def term (an bn : List Nat) (w1 w2 i j q : Nat) : Nat := gm (an.getD (i * w1 + q) 0) (bn.getD (q * w2 + j) 0)
def dot (an bn : List Nat) (w1 w2 i j : Nat) : Nat → Nat
  | 0 => 0
  | n + 1 => dot an bn w1 w2 i j n ^^^ term an bn w1 w2 i j n
def mz (an bn : List Nat) (w1 w2 i j : Nat) : List Int := ((List.range i).flatMap fun a => (List.range w2).map fun b => ((dot an bn w1 w2 a b w1 : Nat) : Int)) ++ ((List.range j).map fun b => ((dot an bn w1 w2 i b w1 : Nat) : Int))
theorem mz_len (an bn : List Nat) (w1 w2 i j : Nat) : (mz an bn w1 w2 i j).length = i * w2 + j := by
  simp [mz, List.length_flatMap, sum_const]
theorem mz_row (an bn : List Nat) (w1 w2 i : Nat) : mz an bn w1 w2 i w2 = mz an bn w1 w2 (i + 1) 0 := by
  simp [mz, List.range_succ]
theorem mz_one (an bn : List Nat) (w1 w2 i j : Nat) : rowsZ (mz an bn w1 w2 i j) ++ [[.int .i64 ((dot an bn w1 w2 i j w1 : Nat) : Int)]] = rowsZ (mz an bn w1 w2 i (j + 1)) := by
  simp [mz, List.range_succ, rowsZ]
theorem getD_lt {an : List Nat} (h : ∀ x ∈ an, x < 256) (i : Nat) : an.getD i 0 < 256 := by
  by_cases hi : i < an.length
  · rw [List.getD_eq_getElem?_getD, List.getElem?_eq_getElem hi]; exact h _ (List.getElem_mem hi)
  · rw [List.getD_eq_getElem?_getD, List.getElem?_eq_none (by omega)]; decide
theorem dot_lt {an bn : List Nat} (ha : ∀ x ∈ an, x < 256) (w1 w2 i j : Nat) : ∀ n, dot an bn w1 w2 i j n < 256
  | 0 => by simp [dot]
  | n + 1 => Nat.xor_lt_two_pow (n := 8) (dot_lt ha w1 w2 i j n) (gm_lt (getD_lt ha _))
theorem castL_len (l : List Nat) : (castL l).length = l.length := by simp [castL]
theorem rowsC_at {an : List Nat} {i : Nat} (h : i < an.length) (h' : i < (rowsZ (castL an)).length) : (rowsZ (castL an))[i]'h' = [.int .i64 ((an.getD i 0 : Nat) : Int)] := by
  simp [rowsZ, castL, List.getD_eq_getElem?_getD, List.getElem?_eq_getElem h]
theorem l03Mul (n : Nat) (h1 w1 w2 : Nat) (an bn : List Nat) (hh1 : h1 ≤ 8) (hw1 : w1 ≤ 8) (hw2 : w2 ≤ 8) (ha : ∀ x ∈ an, x < 256) (hb : ∀ x ∈ bn, x < 256) (la : an.length = h1 * w1) (lb : bn.length = w1 * w2) :
    call code (n + 2) 37 [.agg [.int .i64 h1, .int .i64 w1, .rd true (rowsZ (castL an))], .agg [.int .i64 w1, .int .i64 w2, .rd true (rowsZ (castL bn))]] [] =
      some ⟨.agg [.int .i64 h1, .int .i64 w2, .sl 0 0 0 [] 0 (mz an bn w1 w2 h1 0).length], [⟨0, 1, false, true, rowsZ (mz an bn w1 w2 h1 0)⟩], []⟩ := by
  refine call_run rfl fn37 rfl ?_
  have rla : (rowsZ (castL an)).length = h1 * w1 := by rw [rowsZ_len, castL_len, la]
  have rlb : (rowsZ (castL bn)).length = w1 * w2 := by rw [rowsZ_len, castL_len, lb]
  simp [F37]
  refine RunC_loop (fun i : Nat => ⟨[.undef, .undef, .ptr 0 0 0 [] 0 0, .ptr 0 256 0 [] 0 0, .ptr 0 512 0 [] 0 0, .ptr 0 66816 0 [] 0 0, .int .i64 i] ++ List.replicate 56 .undef,
      [(0, some ⟨0, 3, true, false, [[.int .i64 h1, .int .i64 w1, .rd true (rowsZ (castL an))]]⟩), (256, some ⟨0, 3, true, false, [[.int .i64 w1, .int .i64 w2, .rd true (rowsZ (castL bn))]]⟩), (512, some ⟨0, 3, true, false, [[.int .i64 0, .int .i64 0, .sl 0 515 0 [] 0 0]]⟩), (515, some ⟨0, 1, false, true, []⟩), (66816, some ⟨0, 3, true, false, [[.int .i64 h1, .int .i64 w2, .sl 0 67075 0 [] 0 (mz an bn w1 w2 i 0).length]]⟩), (66819, some ⟨0, 1, false, true, []⟩), (67075, some ⟨0, 1, false, true, rowsZ (mz an bn w1 w2 i 0)⟩)], []⟩)
    (fun i => i ≤ h1) (fun i => h1 - i) 0 (Nat.zero_le _) (by simp; omega) (by simp [mz, rowsZ]) fun i hi _ => ?_
  by_cases hlt : i < h1
  · simp [hlt]
    refine RunC_loop (fun j : Nat => ⟨[.undef, .undef, .ptr 0 0 0 [] 0 0, .ptr 0 256 0 [] 0 0, .ptr 0 512 0 [] 0 0, .ptr 0 66816 0 [] 0 0, .int .i64 i, .int .i64 j] ++ List.replicate 55 .undef,
      [(0, some ⟨0, 3, true, false, [[.int .i64 h1, .int .i64 w1, .rd true (rowsZ (castL an))]]⟩), (256, some ⟨0, 3, true, false, [[.int .i64 w1, .int .i64 w2, .rd true (rowsZ (castL bn))]]⟩), (512, some ⟨0, 3, true, false, [[.int .i64 0, .int .i64 0, .sl 0 515 0 [] 0 0]]⟩), (515, some ⟨0, 1, false, true, []⟩), (66816, some ⟨0, 3, true, false, [[.int .i64 h1, .int .i64 w2, .sl 0 67075 0 [] 0 (mz an bn w1 w2 i j).length]]⟩), (66819, some ⟨0, 1, false, true, []⟩), (67075, some ⟨0, 1, false, true, rowsZ (mz an bn w1 w2 i j)⟩)], []⟩)
      (fun j => j ≤ w2) (fun j => w2 - j) 0 (Nat.zero_le _) (by simp; omega) (by simp) fun j hj _ => ?_
    by_cases hlt2 : j < w2
    · simp [hlt2]
      refine RunC_loop (fun q : Nat => ⟨[.undef, .undef, .ptr 0 0 0 [] 0 0, .ptr 0 256 0 [] 0 0, .ptr 0 512 0 [] 0 0, .ptr 0 66816 0 [] 0 0, .int .i64 i, .int .i64 j, .int .i64 (dot an bn w1 w2 i j q : Nat), .int .i64 q] ++ List.replicate 53 .undef,
        [(0, some ⟨0, 3, true, false, [[.int .i64 h1, .int .i64 w1, .rd true (rowsZ (castL an))]]⟩), (256, some ⟨0, 3, true, false, [[.int .i64 w1, .int .i64 w2, .rd true (rowsZ (castL bn))]]⟩), (512, some ⟨0, 3, true, false, [[.int .i64 0, .int .i64 0, .sl 0 515 0 [] 0 0]]⟩), (515, some ⟨0, 1, false, true, []⟩), (66816, some ⟨0, 3, true, false, [[.int .i64 h1, .int .i64 w2, .sl 0 67075 0 [] 0 (mz an bn w1 w2 i j).length]]⟩), (66819, some ⟨0, 1, false, true, []⟩), (67075, some ⟨0, 1, false, true, rowsZ (mz an bn w1 w2 i j)⟩)], []⟩)
        (fun q => q ≤ w1) (fun q => w1 - q) 0 (Nat.zero_le _) (by simp; omega) (by simp [dot]) fun q hq _ => ?_
      by_cases hlt3 : q < w1
      · have b1 : i * w1 ≤ 8 * 8 := Nat.mul_le_mul (by omega) hw1
        have b2 : q * w2 ≤ 8 * 8 := Nat.mul_le_mul (by omega) hw2
        have c1 : i * w1 + q < h1 * w1 := by
          have : (i + 1) * w1 ≤ h1 * w1 := Nat.mul_le_mul_right _ hlt
          rw [Nat.add_mul] at this; omega
        have c2 : q * w2 + j < w1 * w2 := by
          have : (q + 1) * w2 ≤ w1 * w2 := Nat.mul_le_mul_right _ hlt3
          rw [Nat.add_mul] at this; omega
        have e1 : IntKind.wrap .i64 ((i : Int) * (w1 : Int)) = ((i * w1 : Nat) : Int) := by rw [show (i : Int) * (w1 : Int) = ((i * w1 : Nat) : Int) by simp, wrap64 ⟨by omega, by omega⟩]
        have e2 : IntKind.wrap .i64 ((q : Int) * (w2 : Int)) = ((q * w2 : Nat) : Int) := by rw [show (q : Int) * (w2 : Int) = ((q * w2 : Nat) : Int) by simp, wrap64 ⟨by omega, by omega⟩]
        have e3 : IntKind.wrap .i64 (((i * w1 : Nat) : Int) + (q : Int)) = ((i * w1 + q : Nat) : Int) := by rw [wrap64 ⟨by omega, by omega⟩]; omega
        have e4 : IntKind.wrap .i64 (((q * w2 : Nat) : Int) + (j : Int)) = ((q * w2 + j : Nat) : Int) := by rw [wrap64 ⟨by omega, by omega⟩]; omega
        have g1 : ∀ h, (rowsZ (castL an))[i * w1 + q]'h = [AV.int .i64 ((an.getD (i * w1 + q) 0 : Nat) : Int)] := fun h => rowsC_at (by rw [la]; exact c1) h
        have g2 : ∀ h, (rowsZ (castL bn))[q * w2 + j]'h = [AV.int .i64 ((bn.getD (q * w2 + j) 0 : Nat) : Int)] := fun h => rowsC_at (by rw [lb]; exact c2) h
        have u1 := getD_lt ha (i * w1 + q)
        have u2 := getD_lt hb (q * w2 + j)
        have hd0 := dot_lt (bn := bn) ha w1 w2 i j q
        have ht := fun n => l02Times n (an.getD (i * w1 + q) 0) (bn.getD (q * w2 + j) 0) u1 u2
        have hgl := gm_lt (b := bn.getD (q * w2 + j) 0) u1
        have hds : dot an bn w1 w2 i j (q + 1) = dot an bn w1 w2 i j q ^^^ gm (an.getD (i * w1 + q) 0) (bn.getD (q * w2 + j) 0) := rfl
        generalize gm (an.getD (i * w1 + q) 0) (bn.getD (q * w2 + j) 0) = pr at *
        generalize an.getD (i * w1 + q) 0 = av at *
        generalize bn.getD (q * w2 + j) 0 = bv at *
        generalize hd1 : dot an bn w1 w2 i j (q + 1) = d1 at *
        generalize dot an bn w1 w2 i j q = d0 at *
        have e5 : gXor .i64 (d0 : Int) (pr : Int) = ((d0 ^^^ pr : Nat) : Int) := gXor64 (by omega) (by omega)
        rw [← hds] at e5
        have hs := idx_succ hlt3 (by omega)
        generalize i * w1 + q = x1 at *
        generalize q * w2 + j = x2 at *
        generalize i * w1 = y1 at *
        generalize q * w2 = y2 at *
        generalize h1 * w1 = z1 at *
        generalize w1 * w2 = z2 at *
        simp [hlt3, e1, e2, e3, e4, e5, hs, rla, rlb, c1, c2, g1, g2, rcall56, ht]
        exact ⟨q + 1, by omega, by omega, by rw [hd1], by simp⟩
      · have : q = w1 := by omega
        subst this
        have hone := mz_one an bn q w2 i j
        have hl1 := mz_len an bn q w2 i j
        have hl2 := mz_len an bn q w2 i (j + 1)
        have hrl := rowsZ_len (mz an bn q w2 i j)
        have hs := idx_succ hlt2 (by omega)
        have b1 : i * w2 ≤ 8 * 8 := Nat.mul_le_mul (by omega) hw2
        have hl3 : (mz an bn q w2 i j).length + 1 = (mz an bn q w2 i (j + 1)).length := by omega
        have hll : (mz an bn q w2 i j).length ≤ 1000 := by omega
        generalize (mz an bn q w2 i j).length = L at *
        generalize dot an bn q w2 i j q = dd at *
        simp [hs, source, evalW, hrl, hone]
        exact ⟨⟨by omega, by omega⟩, j + 1, by omega, by omega, by simp, hl3, rfl⟩
    · have : j = w2 := by omega
      subst this
      have hs := idx_succ hlt (by omega)
      have hrow := mz_row an bn w1 j i
      simp [hs]
      exact ⟨i + 1, by omega, by omega, by simp, by rw [hrow], by rw [hrow]⟩
  · have : i = h1 := by omega
    subst this
    simp
end Go.Ae.R2
