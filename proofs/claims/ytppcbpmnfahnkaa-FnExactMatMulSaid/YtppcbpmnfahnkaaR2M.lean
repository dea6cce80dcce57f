/- The law FnExactMatMul over the evaluator's code. -/
import Derived.Test.YtppcbpmnfahnkaaR2L
namespace Go.Ae.R2
set_option linter.unusedSimpArgs false
set_option linter.unusedVariables false
@[simp] theorem heap_zero (ts : List AV) (l : Heap) (e : List Heap) : St.heap ⟨ts, l, e⟩ 0 = l := rfl
@[simp] theorem bears_nobox (v sz : Nat) (fl : Bool) (el : List (List AV)) : Blk.bears ⟨v, sz, false, fl, el⟩ = false := rfl
theorem hp_all {l : Heap} {S : Nat} {c : Int} {ws : List Int} (h : l.set S (some ⟨0, 1, false, true, rowsZ ws⟩) = l) : hp l S c ws ws.length = l.set S (some ⟨0, 1, false, true, rowsZ (marks c ws.length)⟩) := by
  unfold hp
  split
  · rename_i h0
    have : ws = [] := List.length_eq_zero_iff.1 h0
    subst this
    exact h.symm
  · rw [mix_all]
set_option maxRecDepth 100000 in
set_option maxHeartbeats 32000000 in
theorem law4 (n : Nat) (h1 w1 : Int) (ws1 : List Int) (h2 w2 : Int) (ws2 : List Int) (hb1 : ws1.length ≤ 140737488351232) (hb2 : ws2.length ≤ 140737488351232) :
    call code (n + 8) 4 [.agg [.int .i64 h1, .int .i64 w1, .rd true (rowsZ ws1)], .agg [.int .i64 h2, .int .i64 w2, .rd true (rowsZ ws2)]] [] = some ⟨.bool true, [], []⟩ := by
  refine call_run rfl fn4 rfl ?_
  have z1 := fun n => szMatrix n 1048576 h1 w1 ws1 (by omega) hb1
  cases g1 : decide (szI 1048576 ws1.length < 0)
  · have q1 : ws1.length ≤ 1048576 ∧ szI 1048576 ws1.length = 1048576 - ws1.length := by
      have := of_decide_eq_false g1
      unfold szI at this ⊢
      split at this
      · omega
      · rename_i h; rw [if_neg h]; omega
    have z2 := fun n => szMatrix n (szI 1048576 ws1.length) h2 w2 ws2 (by omega) hb2
    cases g2 : decide (szI (szI 1048576 ws1.length) ws2.length < 0)
    · have q2 : ws2.length ≤ 1048576 := by
        have := of_decide_eq_false g2
        unfold szI at this
        split at this
        · omega
        · split at this <;> omega
      obtain ⟨r, h, w, cs, e, rfl, hcs, hi, hs⟩ := mul_all h1 w1 ws1 h2 w2 ws2 q1.1 q2
      simp only [res] at hi hs
      have t1 := fun n => toMatrix n h1 w1 ws1 q1.1
      have t2 := fun n => toMatrix n h2 w2 ws2 q2
      have ec := fun n h w => eqMatrix n h w cs (by omega)
      have e1 := fun n h w => eqMatrix n h w ws1 (by omega)
      have e2 := fun n h w => eqMatrix n h w ws2 (by omega)
      have m1 := fun n l S hl => markMatrix n l S h1 w1 ws1 1 (by omega) (by omega) hl
      have m2 := fun n l S hl => markMatrix n l S h2 w2 ws2 (1 + (ws1.length : Int)) (by omega) (by omega) hl
      have mc := fun n l S hl => markMatrix n l S h w cs 1 (by omega) (by omega) hl
      have hh := fun n h w => heldMatrix n h w cs.length 1 (by omega) (by omega)
      have l1 := rowsZ_len ws1
      have l2 := rowsZ_len ws2
      have lc := rowsZ_len cs
      have hrm : ∀ c n, (rowsZ (marks c n)).length = n := fun c n => by simp [rowsZ, marks]
      have k1 : (rowsZ ws1).take ws1.length = rowsZ ws1 := by rw [← l1, List.take_length]
      have k2 : (rowsZ ws2).take ws2.length = rowsZ ws2 := by rw [← l2, List.take_length]
      have kc : (rowsZ cs).take cs.length = rowsZ cs := by rw [← lc, List.take_length]
      have km : ∀ c m, (rowsZ (marks c m)).take m = rowsZ (marks c m) := fun c m => List.take_of_length_le (by rw [hrm]; exact Nat.le_refl _)
      have d1 : decide (1 + (ws1.length : Int) + (ws2.length : Int) < 0) = false := by simp <;> omega
      have d2 : decide (1 + (cs.length : Int) < 0) = false := by simp <;> omega
      simp (maxSteps := 20000000) [F4, rcall14, rcall15, rcall16, rcall17, rcall11, rcall12, rcall13, z1, z2, g1, g2, hi, hs, t1, t2, ec, e1, e2, m1, m2, mc, hp_all, hh, l1, l2, lc, hrm, k1, k2, kc, km, d1, d2]
    · simp [F4, rcall14, z1, z2, g1, g2]
  · simp [F4, rcall14, z1, g1]
theorem rows_fit : ∀ {xs : List (List AV)}, (∀ r ∈ xs, FitsAll [.int .i64] r) → ∃ ws, xs = rowsZ ws
  | [], _ => ⟨[], rfl⟩
  | r :: xs, h => by
    obtain ⟨v, r', rfl, h1, h2⟩ := (h r List.mem_cons_self).cons_inv
    obtain rfl := h2.nil_inv
    obtain ⟨c, rfl, _⟩ := h1.i64_inv
    obtain ⟨ws, rfl⟩ := rows_fit fun x hx => h x (List.mem_cons_of_mem _ hx)
    exact ⟨c :: ws, rfl⟩
theorem mat_fit {v : AV} (h : PFits (true, [.int .i64, .int .i64, .sl 8 [.int .i64]]) v) : ∃ (a b : Int) (ws : List Int), v = .agg [.int .i64 a, .int .i64 b, .rd true (rowsZ ws)] ∧ ws.length ≤ 140737488351232 := by
  obtain ⟨cs, rfl, f0⟩ := h.agg_inv
  obtain ⟨_, _, rfl, c0, f1⟩ := f0.cons_inv
  obtain ⟨_, _, rfl, c1, f2⟩ := f1.cons_inv
  obtain ⟨_, _, rfl, c2, f3⟩ := f2.cons_inv
  obtain rfl := f3.nil_inv
  obtain ⟨a, rfl, _⟩ := c0.i64_inv
  obtain ⟨b, rfl, _⟩ := c1.i64_inv
  obtain ⟨xs, rfl, hl, hr⟩ := c2.sl_inv
  obtain ⟨ws, rfl⟩ := rows_fit hr
  refine ⟨a, b, ws, rfl, ?_⟩
  rw [rowsZ_len] at hl; omega
theorem lawMatMul (avs : List AV) (h : PFitsAll [(true, [.int .i64, .int .i64, .sl 8 [.int .i64]]), (true, [.int .i64, .int .i64, .sl 8 [.int .i64]])] avs) : ∃ n bs e, call code n 4 avs [] = some ⟨.bool true, bs, e⟩ := by
  obtain ⟨v0, r, rfl, h0, h⟩ := h.cons_inv
  obtain ⟨v1, r, rfl, h1, h⟩ := h.cons_inv
  obtain rfl := h.nil_inv
  obtain ⟨a, b, ws1, rfl, b1⟩ := mat_fit h0
  obtain ⟨c, d, ws2, rfl, b2⟩ := mat_fit h1
  exact ⟨_, _, _, law4 0 _ _ _ _ _ _ b1 b2⟩
end Go.Ae.R2
