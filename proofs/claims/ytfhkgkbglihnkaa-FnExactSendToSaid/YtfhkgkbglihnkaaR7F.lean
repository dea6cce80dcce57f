/- The law FnExactSendTo over the evaluator's code. -/
import Derived.Test.YtfhkgkbglihnkaaR7E
namespace Go.Ae.R7
set_option linter.unusedSimpArgs false
set_option linter.unusedVariables false
theorem sz_bound {nm s : ByteArray} (h : ¬ szClientI 1048576 nm s < 0) : nm.size ≤ 1048576 ∧ s.size ≤ 1048576 ∧ szClientI 1048576 nm s = 1048576 - nm.size - s.size := by
  simp only [szClientI, szS] at h ⊢
  by_cases g1 : (1048576 : Int) - nm.size < 0
  · simp [g1] at h
  · by_cases g2 : (1048576 : Int) - nm.size - s.size < 0
    · simp [g1, g2] at h
    · simp [g1, g2]; omega
set_option maxRecDepth 100000 in
set_option maxHeartbeats 16000000 in
theorem law3 (k : Nat) (id no : Int) (busy : Bool) (pool pno : Int) (nm : ByteArray) (n t : Int) (s : ByteArray) (tr : Int) (ld : Int) (h1 : nm.size ≤ 140737488351232) (h2 : s.size ≤ 140737488351232) :
    ∃ bs e, call code (k + 9) 3 [.agg [.int .i64 id, .int .i64 no, .bool busy, .int .i64 pool, .int .i64 pno, .str nm, .int .i64 n, .int .i64 t, .str s, .int .i64 tr], .int .i64 ld] [] = some ⟨.bool true, bs, e⟩ := by
  refine ⟨[], [], call_run rfl fn3 rfl ?_⟩
  have hz := fun k => szClient k id no busy pool pno nm n t s tr 1048576 (by omega) h1 h2
  cases g1 : decide (szClientI 1048576 nm s < 0)
  · obtain ⟨b1, b2, b3⟩ := sz_bound (of_decide_eq_false g1)
    have hi := fun k => implSendTo k id no busy pool pno nm n t s tr ld b1 b2
    have hs := fun k => specSendTo k id no busy pool pno nm n t s tr ld b1 b2
    cases hA : callerB id no busy pool pno nm n t s tr
    · simp only [hA, sendC, sendM, blks4, Bool.false_eq_true, Bool.false_and, if_false, if_true] at hi hs
      simp (maxSteps := 4000000) [F3, rcall, hz, g1, toClient, hi, hs, eqClient, eqMsg, markMsg, heldMsg, List.eraseDups, List.eraseDupsBy, List.eraseDupsBy.loop, outR, List.idxOf, List.findIdx, List.findIdx.go]
    · cases hB : goB busy ld tr
      · simp only [hA, hB, sendC, sendM, blks4, Bool.false_eq_true, Bool.true_and, if_false, if_true] at hi hs
        simp (maxSteps := 4000000) [F3, rcall, hz, g1, toClient, hi, hs, eqClient, eqMsg, markMsg, heldMsg, List.eraseDups, List.eraseDupsBy, List.eraseDupsBy.loop, outR, List.idxOf, List.findIdx, List.findIdx.go]
      · simp only [hA, hB, sendC, sendM, blks4, Bool.true_and, if_true] at hi hs
        simp (maxSteps := 4000000) [F3, rcall, hz, g1, toClient, hi, hs, eqClient, eqMsg, markMsg, heldMsg, List.eraseDups, List.eraseDupsBy, List.eraseDupsBy.loop, outR, List.idxOf, List.findIdx, List.findIdx.go]
  · simp [F3, rcall, hz, g1]
theorem lawSendTo (avs : List AV) (h : PFitsAll [(true, [.int .i64, .int .i64, .bool, .int .i64, .int .i64, .str, .int .i64, .int .i64, .str, .int .i64]), (false, [.int .i64])] avs) : ∃ n bs e, call code n 3 avs [] = some ⟨.bool true, bs, e⟩ := by
  obtain ⟨v0, r, rfl, h0, h⟩ := h.cons_inv
  obtain ⟨v1, r, rfl, g1, h⟩ := h.cons_inv
  obtain rfl := h.nil_inv
  obtain ⟨b, rfl, wb⟩ := g1.one_inv.i64_inv
  obtain ⟨cs, rfl, f0⟩ := h0.agg_inv
  clear h0 h
  obtain ⟨_, _, rfl, hc, f1⟩ := f0.cons_inv
  clear f0
  obtain ⟨x0, rfl, w0⟩ := hc.i64_inv
  clear hc
  obtain ⟨_, _, rfl, hc, f2⟩ := f1.cons_inv
  clear f1
  obtain ⟨x1, rfl, w1⟩ := hc.i64_inv
  clear hc
  obtain ⟨_, _, rfl, hc, f3⟩ := f2.cons_inv
  clear f2
  obtain ⟨x2, rfl⟩ := hc.bool_inv
  clear hc
  obtain ⟨_, _, rfl, hc, f4⟩ := f3.cons_inv
  clear f3
  obtain ⟨x3, rfl, w3⟩ := hc.i64_inv
  clear hc
  obtain ⟨_, _, rfl, hc, f5⟩ := f4.cons_inv
  clear f4
  obtain ⟨x4, rfl, w4⟩ := hc.i64_inv
  clear hc
  obtain ⟨_, _, rfl, hc, f6⟩ := f5.cons_inv
  clear f5
  obtain ⟨x5, rfl, w5⟩ := hc.str_inv
  clear hc
  obtain ⟨_, _, rfl, hc, f7⟩ := f6.cons_inv
  clear f6
  obtain ⟨x6, rfl, w6⟩ := hc.i64_inv
  clear hc
  obtain ⟨_, _, rfl, hc, f8⟩ := f7.cons_inv
  clear f7
  obtain ⟨x7, rfl, w7⟩ := hc.i64_inv
  clear hc
  obtain ⟨_, _, rfl, hc, f9⟩ := f8.cons_inv
  clear f8
  obtain ⟨x8, rfl, w8⟩ := hc.str_inv
  clear hc
  obtain ⟨_, _, rfl, hc, f10⟩ := f9.cons_inv
  clear f9
  obtain ⟨x9, rfl, w9⟩ := hc.i64_inv
  clear hc
  obtain rfl := f10.nil_inv
  exact ⟨_, law3 0 _ _ _ _ _ _ _ _ _ _ _ w5 w8⟩
end Go.Ae.R7
