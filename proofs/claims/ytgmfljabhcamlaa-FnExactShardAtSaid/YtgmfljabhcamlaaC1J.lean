/- Is a matrix right? A row of one that came in. -/
import Derived.Test.YtgmfljabhcamlaaC1H
namespace Go.Ae.C1
set_option linter.unusedSimpArgs false
set_option linter.unusedVariables false
def castL (l : List Nat) : List Int := l.map fun (n : Nat) => (n : Int)
theorem getD_lt {an : List Nat} (h : ∀ x ∈ an, x < 256) (i : Nat) : an.getD i 0 < 256 := by
  by_cases hi : i < an.length
  · rw [List.getD_eq_getElem?_getD, List.getElem?_eq_getElem hi]; exact h _ (List.getElem_mem hi)
  · rw [List.getD_eq_getElem?_getD, List.getElem?_eq_none (by omega)]; decide
theorem castL_len (l : List Nat) : (castL l).length = l.length := by simp [castL]
theorem rowsC_at {an : List Nat} {i : Nat} (h : i < an.length) (h' : i < (rowsZ (castL an)).length) : (rowsZ (castL an))[i]'h' = [.int .i64 ((an.getD i 0 : Nat) : Int)] := by
  simp [rowsZ, castL, List.getD_eq_getElem?_getD, List.getElem?_eq_getElem h]
def matB (h w : Int) (ws : List Int) : Bool := inB h 1 8 && inB w 1 8 && ((ws.length : Int) == h * w) && ws.all elB
theorem hw_wrap {h w : Int} (h1 : inB h 1 8 = true) (h2 : inB w 1 8 = true) : IntKind.wrap .i64 (h * w) = h * w := by
  simp [inB] at h1 h2
  have b1 : h * w ≤ 8 * 8 := Int.mul_le_mul h1.2 h2.2 (by omega) (by omega)
  have b2 : 0 ≤ h * w := Int.mul_nonneg (by omega) (by omega)
  exact wrap64 ⟨by omega, by omega⟩
theorem l03OK (k : Nat) (h w : Int) (ws : List Int) (hn : ws.length ≤ 1048576) : call code (k + 3) 88 [.agg [.int .i64 h, .int .i64 w, .rd true (rowsZ ws)]] [] = some ⟨.bool (matB h w ws), [], []⟩ := by
  refine call_run rfl fn88 rfl ?_
  have hrl := rowsZ_len ws
  cases h1 : inB h 1 8
  · simp [F88, rcall70, l00In, h1, matB]
  cases h2 : inB w 1 8
  · simp [F88, rcall70, l00In, h1, h2, matB]
  have e1 := hw_wrap h1 h2
  cases h3 : ((ws.length : Int) == h * w)
  · have h3' : ((ws.length : Int) != h * w) = true := by simp [bne, h3]
    simp [F88, rcall70, l00In, h1, h2, e1, hrl, h3', matB, h3]
  have h3' : ((ws.length : Int) != h * w) = false := by simp [bne, h3]
  simp [F88, rcall70, l00In, h1, h2, e1, hrl, h3']
  refine RunC_loop (fun i : Nat => ⟨[.undef, .ptr 0 0 0 [] 0 0, .undef, .int .i64 i] ++ List.replicate 35 .undef, [(0, some ⟨0, 3, true, false, [[.int .i64 h, .int .i64 w, .rd true (rowsZ ws)]]⟩)], []⟩)
    (fun i => i ≤ ws.length ∧ ∀ j (hj : j < i) (hl : j < ws.length), elB ws[j] = true) (fun i => ws.length - i) 0 ⟨Nat.zero_le _, fun j hj => by omega⟩ (by simp; omega) (by simp) fun i hi _ => ?_
  by_cases hlt : i < ws.length
  · have hg : ∀ h, (rowsZ ws)[i]'h = [AV.int .i64 ws[i]] := fun h => rowsZ_at hlt h
    have hs : IntKind.wrap .i64 ((i : Int) + 1) = ((i + 1 : Nat) : Int) := by rw [wrap64 ⟨by omega, by omega⟩]; omega
    cases hb : elB ws[i]
    · have hall : ws.all elB = false := by rw [List.all_eq_false]; exact ⟨ws[i], List.getElem_mem hlt, by simp [hb]⟩
      simp [hlt, hrl, hg, rcall128, l02Byte, hb, matB, hall]
    · simp [hlt, hrl, hg, rcall128, l02Byte, hb, hs]
      refine ⟨i + 1, ⟨by omega, fun j hj hl => ?_⟩, by omega, by simp⟩
      rcases Nat.lt_succ_iff_lt_or_eq.1 hj with h | rfl
      · exact hi.2 j h hl
      · exact hb
  · have : i = ws.length := by omega
    subst this
    have hall : ws.all elB = true := by
      rw [List.all_eq_true]; intro x hx
      obtain ⟨j, hj, rfl⟩ := List.getElem_of_mem hx
      exact hi.2 j hj hj
    simp [hrl, matB, h1, h2, h3, hall]
theorem matrixOk (k : Nat) (h w : Int) (ws : List Int) (hn : ws.length ≤ 1048576) : call code (k + 6) 91 [.agg [.int .i64 h, .int .i64 w, .rd true (rowsZ ws)]] [] = some ⟨.bool (matB h w ws), [], []⟩ := by
  refine call_run rfl fn91 rfl ?_
  have hrl := rowsZ_len ws
  have hc := fun k => containsFunc k ws hn
  cases h1 : inB h 1 8
  · simp [F91, rcall78, between, h1, matB]
  cases h2 : inB w 1 8
  · simp [F91, rcall78, between, h1, h2, matB]
  have e1 := hw_wrap h1 h2
  cases h3 : ((ws.length : Int) == h * w)
  · simp [F91, rcall78, between, h1, h2, e1, hrl, h3, matB]
  simp [F91, rcall78, between, h1, h2, e1, hrl, h3, matB, rcall131, hc]
def prt (an : List Nat) (A B : Nat) : List Nat := (an.take B).drop A
theorem prt_get {an : List Nat} {A B j : Nat} (h : A + j < B) : (prt an A B).getD j 0 = an.getD (A + j) 0 := by
  simp [prt, List.getD_eq_getElem?_getD, List.getElem?_drop, List.getElem?_take_of_lt h]
theorem prt_len {an : List Nat} {A B : Nat} (h : B ≤ an.length) : (prt an A B).length = B - A := by simp [prt]; omega
theorem prt_rows (an : List Nat) (A B : Nat) : ((rowsZ (castL an)).take B).drop A = rowsZ (castL (prt an A B)) := by simp [rowsZ, castL, prt, List.map_take, List.map_drop]
/-- A row of a matrix that is only read. -/
theorem rowRd (k : Nat) (l : Heap) (h : Int) (w i : Nat) (an : List Nat) (hw : w ≤ 1000) (hi : (i + 1) * w ≤ an.length) (hn : an.length ≤ 4000000) (hi2 : i ≤ 1000) :
    call code (k + 1) 134 [.agg [.int .i64 h, .int .i64 w, .rd true (rowsZ (castL an))], .int .i64 i] [l] = some ⟨.rd true (rowsZ (castL (prt an (i * w) ((i + 1) * w)))), [], [l]⟩ := by
  refine call_run rfl fn134 rfl ?_
  have hm1 : i * w ≤ 4000000 := by rw [Nat.add_mul] at hi; omega
  have e1 : IntKind.wrap .i64 ((i : Int) * (w : Int)) = ((i * w : Nat) : Int) := by rw [show (i : Int) * (w : Int) = ((i * w : Nat) : Int) by simp, wrap64 ⟨by omega, by omega⟩]
  have e2 : IntKind.wrap .i64 ((i : Int) + 1) = ((i + 1 : Nat) : Int) := by rw [wrap64 ⟨by omega, by omega⟩]; omega
  have e3 : IntKind.wrap .i64 (((i + 1 : Nat) : Int) * (w : Int)) = (((i + 1) * w : Nat) : Int) := by rw [show ((i + 1 : Nat) : Int) * (w : Int) = (((i + 1) * w : Nat) : Int) by simp, wrap64 ⟨by omega, by omega⟩]
  have hle : i * w ≤ (i + 1) * w := by rw [Nat.add_mul]; omega
  have hrl : (rowsZ (castL an)).length = an.length := by rw [rowsZ_len, castL_len]
  have hp := prt_rows an (i * w) ((i + 1) * w)
  have hall : (rowsZ (castL an)).all (fun r => r.length == 1) = true := by simp [rowsZ]
  generalize hA : i * w = A at *
  generalize hB : (i + 1) * w = B at *
  generalize hI : i + 1 = I1 at *
  simp [F134, e1, e2, e3, hrl, hi, hle, hp]
  try (intro x hx; simp [rowsZ] at hx; obtain ⟨a, _, rfl⟩ := hx; rfl)
end Go.Ae.C1
