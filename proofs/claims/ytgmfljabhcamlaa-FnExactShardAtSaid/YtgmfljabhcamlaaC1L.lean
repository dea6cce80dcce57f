/- A matrix times a column of texts, twice told. -/
import Derived.Test.YtgmfljabhcamlaaC1K
namespace Go.Ae.C1
set_option linter.unusedSimpArgs false
set_option linter.unusedVariables false
theorem repeatL_zero : ∀ n, Lib.repeatL [0] n = List.replicate n 0
  | 0 => rfl
  | n + 1 => by rw [Lib.repeatL, repeatL_zero n]; rfl
theorem zeros (k n : Nat) (hn : n ≤ 1048576) : call code (k + 1) 123 [.str ⟨#[0]⟩, .int .i64 n] [] = some ⟨.str (B (List.replicate n 0)), [], []⟩ := by
  refine nat123 k _ _ _ _ ?_
  have hsz : (ByteArray.mk #[(0 : UInt8)]).size = 1 := rfl
  simp only [natRepeat]
  rw [if_pos ⟨by omega, by omega, by rw [hsz]; simp; omega⟩]
  simp only [repB, Int.toNat_natCast]
  rw [repeatL_zero]; rfl
def acc (an : List Nat) (w : Nat) (ls : List (List UInt8)) (n i : Nat) : Nat → List UInt8
  | 0 => List.replicate n 0
  | k + 1 => sm (acc an w ls n i k) (scl (an.getD (i * w + k) 0) (ls.getD k []))
def pcs (an : List Nat) (h w : Nat) (ls : List (List UInt8)) (n : Nat) : List (List UInt8) := (List.range h).map fun i => acc an w ls n i w
theorem acc_len {an : List Nat} {w : Nat} {ls : List (List UInt8)} {n i : Nat} (hl : ∀ l ∈ ls, l.length = n) : ∀ k, k ≤ ls.length → (acc an w ls n i k).length = n
  | 0, _ => by simp [acc]
  | k + 1, h => by
    have h1 := acc_len (an := an) (w := w) (i := i) hl k (by omega)
    have h2 : (ls.getD k []).length = n := by
      rw [List.getD_eq_getElem?_getD, List.getElem?_eq_getElem (by omega)]; exact hl _ (List.getElem_mem _)
    rw [acc, sm_len (by rw [scl_len, h1, h2]), h1]
theorem pcs_len (an : List Nat) (h w : Nat) (ls : List (List UInt8)) (n : Nat) : (pcs an h w ls n).length = h := by simp [pcs]
def rowsS (ls : List (List UInt8)) : List (List AV) := rws encT (ls.map B)
@[simp] theorem rowsS_len (ls : List (List UInt8)) : (rowsS ls).length = ls.length := by simp [rowsS]
theorem rowsS_at {ls : List (List UInt8)} {i : Nat} (h : i < ls.length) (h' : i < (rowsS ls).length) : (rowsS ls)[i]'h' = [.str (B (ls.getD i []))] := by
  simp [rowsS, encT, List.getD_eq_getElem?_getD, h]
theorem rowsS_app (ls : List (List UInt8)) (l : List UInt8) : rowsS ls ++ [[.str (B l)]] = rowsS (ls ++ [l]) := by simp [rowsS, rws, encT]
theorem pcs_app (an : List Nat) (i w : Nat) (ls : List (List UInt8)) (n : Nat) : pcs an i w ls n ++ [acc an w ls n i w] = pcs an (i + 1) w ls n := by simp [pcs, List.range_succ]
theorem rowsS_get {ls : List (List UInt8)} {i : Nat} (h : i < ls.length) (h' : i < (rowsS ls).length) : (rowsS ls)[i]'h' = [.str (B ls[i])] := by
  simp [rowsS, encT]
theorem acc_step {an : List Nat} {w : Nat} {ls : List (List UInt8)} {n i q : Nat} (h : q < ls.length) : sm (acc an w ls n i q) (scl (an.getD (i * w + q) 0) ls[q]) = acc an w ls n i (q + 1) := by
  rw [acc, List.getD_eq_getElem?_getD (l := ls), List.getElem?_eq_getElem h]; rfl
set_option maxHeartbeats 4000000 in
theorem pieces (k : Nat) (h w : Nat) (an : List Nat) (ls : List (List UInt8)) (n : Nat) (hh : h ≤ 8) (hw : 1 ≤ w ∧ w ≤ 8) (la : an.length = h * w) (ha : ∀ x ∈ an, x < 256) (lw : ls.length = w) (hl : ∀ l ∈ ls, l.length = n) (hn : n ≤ 1048576) :
    call code (k + 4) 93 [.agg [.int .i64 h, .int .i64 w, .rd true (rowsZ (castL an))], .rd true (rowsS ls)] [] = some ⟨.sl 0 0 0 [] 0 h, [⟨0, 1, false, true, rowsS (pcs an h w ls n)⟩], []⟩ := by
  refine call_run rfl fn93 rfl ?_
  have hw64 : h * w ≤ 64 := Nat.mul_le_mul hh hw.2
  simp [F93]
  refine RunC_loop (fun i : Nat => ⟨tm 44 [(1, .rd true (rowsS ls)), (2, .ptr 0 0 0 [] 0 0), (5, .sl 0 65536 0 [] 0 i), (11, .int .i64 h), (12, .int .i64 i)], [(0, some ⟨0, 3, true, false, [[.int .i64 h, .int .i64 w, .rd true (rowsZ (castL an))]]⟩), (256, some ⟨0, 1, false, true, []⟩), (65536, some ⟨0, 1, false, true, rowsS (pcs an i w ls n)⟩)], []⟩)
    (fun i => i ≤ h) (fun i => h - i) 0 (Nat.zero_le _) (by simp; omega) (by simp [tm, pcs, rowsS]) fun i hi _ => ?_
  by_cases hlt : i < h
  · have hs := idx_succ' hlt (by omega)
    have hmul : (i + 1) * w ≤ h * w := Nat.mul_le_mul_right _ hlt
    have hrow := fun k l => rowRd k l h w i an (by omega) (by omega) (by omega) (by omega)
    have hpl : (prt an (i * w) ((i + 1) * w)).length = w := by rw [prt_len (by omega), Nat.add_mul]; omega
    have hrl : (rowsZ (castL (prt an (i * w) ((i + 1) * w)))).length = w := by rw [rowsZ_len, castL_len, hpl]
    have h0 : (0 : Nat) < ls.length := by omega
    have hg0 : ∀ h, (rowsS ls)[0]'h = [.str (B ls[0])] := fun h => rowsS_get h0 h
    have hl0 : ls[0].length = n := hl _ (List.getElem_mem _)
    have hz := fun k => zeros k n hn
    simp [tm, hlt, h0, hg0, hl0, hz, rcall123, rcall134, hrow, hrl, pcs_len]
    refine RunC_loop (fun q : Nat => ⟨tm 44 [(1, .rd true (rowsS ls)), (2, .ptr 0 0 0 [] 0 0), (5, .sl 0 65536 0 [] 0 i), (7, .str (B (acc an w ls n i q))), (11, .int .i64 h), (12, .int .i64 i), (22, .rd true (rowsZ (castL (prt an (i * w) ((i + 1) * w))))), (23, .int .i64 w), (24, .int .i64 q)],
        [(0, some ⟨0, 3, true, false, [[.int .i64 h, .int .i64 w, .rd true (rowsZ (castL an))]]⟩), (256, some ⟨0, 1, false, true, []⟩), (65536, some ⟨0, 1, false, true, rowsS (pcs an i w ls n)⟩)], []⟩)
      (fun q => q ≤ w) (fun q => w - q) 0 (Nat.zero_le _) (by simp; omega) (by simp [tm, acc]) fun q hq _ => ?_
    by_cases hlq : q < w
    · have hsq := idx_succ' hlq (by omega)
      have hq' : q < ls.length := by omega
      have hgq : ∀ h, (rowsS ls)[q]'h = [.str (B ls[q])] := fun h => rowsS_get hq' h
      have hlq2 : ls[q].length = n := hl _ (List.getElem_mem _)
      have hpg : (prt an (i * w) ((i + 1) * w)).getD q 0 = an.getD (i * w + q) 0 := prt_get (by rw [Nat.add_mul]; omega)
      have hgr : ∀ h, (rowsZ (castL (prt an (i * w) ((i + 1) * w))))[q]'h = [.int .i64 ((an.getD (i * w + q) 0 : Nat) : Int)] := fun h => by rw [← hpg]; exact rowsC_at (by rw [hpl]; exact hlq) h
      have hlt8 := getD_lt ha (i * w + q)
      have hal := acc_len (an := an) (w := w) (i := i) hl q (by omega)
      have hstep := acc_step (an := an) (w := w) (n := n) (i := i) hq'
      generalize an.getD (i * w + q) 0 = e at *
      generalize ls[q] = lq at *
      have hsc := fun k => scaled k e lq hlt8 (by omega)
      have hsm := fun k => summed k (acc an w ls n i q) (scl e lq) (by rw [scl_len, hal, hlq2]) (by omega)
      rw [hstep] at hsm
      simp [tm, hlq, hq', hsq, hgq, hgr, hrl, rcall136, hsc, rcall135, hsm]
      exact ⟨q + 1, by omega, by omega, by simp, rfl⟩
    · have : q = w := by omega
      subst this
      have hap := rowsS_app (pcs an i q ls n) (acc an q ls n i q)
      rw [pcs_app] at hap
      simp [tm, hs, evalW, source, pcs_len, hap]
      exact ⟨by omega, i + 1, by omega, by omega, by simp, rfl⟩
  · have : i = h := by omega
    subst this
    simp [tm, pcs_len]
end Go.Ae.C1
