/- The law FnExactClientAsk over the evaluator's code. -/
import Derived.Test.YtnoicgabcojmhaaR1G
namespace Go.Ae.R1
set_option linter.unusedSimpArgs false
set_option linter.unusedVariables false
theorem sz_bound {nm s : ByteArray} (h : ¬ szClientI 1048576 nm s < 0) : nm.size ≤ 1048576 ∧ s.size ≤ 1048576 ∧ szClientI 1048576 nm s = 1048576 - nm.size - s.size := by
  simp only [szClientI, szS] at h ⊢
  by_cases g1 : (1048576 : Int) - nm.size < 0
  · simp [g1] at h
  · by_cases g2 : (1048576 : Int) - nm.size - s.size < 0
    · simp [g1, g2] at h
    · simp [g1, g2]; omega
set_option maxHeartbeats 4000000 in
theorem law8 (k : Nat) (id no : Int) (busy : Bool) (pool pno : Int) (nm : ByteArray) (n t : Int) (s : ByteArray) (tr : Int) (pid pk pm pmin pgs ru : Int) (nm2 : ByteArray) (n2 t2 : Int) (s2 : ByteArray) (h1 : nm.size ≤ 140737488351232) (h2 : s.size ≤ 140737488351232) (h3 : nm2.size ≤ 140737488351232) (h4 : s2.size ≤ 140737488351232) :
    call code (k + 9) 8 [.agg [.int .i64 id, .int .i64 no, .bool busy, .int .i64 pool, .int .i64 pno, .str nm, .int .i64 n, .int .i64 t, .str s, .int .i64 tr], .agg [.int .i64 pid, .int .i64 pk, .int .i64 pm, .int .i64 pmin, .int .i64 pgs, .int .i64 ru], .str nm2, .agg [.int .i64 n2, .int .i64 t2, .str s2]] [] = some ⟨.bool true, [], []⟩ := by
  refine call_run rfl fn8 rfl ?_
  have hz := fun k => szClient k id no busy pool pno nm n t s tr 1048576 (by omega) h1 h2
  cases g0 : decide ((1048576 : Int) < nm2.size)
  · cases g1 : decide (szClientI 1048576 nm s < 0)
    · obtain ⟨b1, b2, b3⟩ := sz_bound (of_decide_eq_false g1)
      have b4 : nm2.size ≤ 1048576 := by have := of_decide_eq_false g0; omega
      have hz2 := fun k => szOp k n2 t2 s2 (szClientI 1048576 nm s) (by have := of_decide_eq_false g1; omega)
      cases g2 : decide (szS (szClientI 1048576 nm s) s2 < 0)
      · have hi := fun k => implAsk k id no busy pool pno nm n t s tr pid pk pm pmin pgs ru nm2 n2 t2 s2 b1 b2 b4
        have hs := fun k => specAsk k id no busy pool pno nm n t s tr pid pk pm pmin pgs ru nm2 n2 t2 s2 b1 b2 b4
        cases hok : (callerB id no busy pool pno nm n t s tr && poolB pid pk pm pmin pgs ru && nameB nm2 && opOkB pk pm n2 t2 s2)
        · simp only [hok, askV, Bool.false_eq_true, if_false, if_true] at hi hs
          simp [F8, rcall, hz, hz2, g0, g1, g2, toClient, toPool, toOp, hi, hs, eqClient]
        · cases busy
          · by_cases h5 : no = 1000
            · subst h5
              simp only [hok, askV, Bool.false_eq_true, if_false, if_true] at hi hs
              simp [F8, rcall, hz, hz2, g0, g1, g2, toClient, toPool, toOp, hi, hs, eqClient]
            · simp only [hok, askV, h5, Bool.false_eq_true, if_false, if_true] at hi hs
              simp [F8, rcall, hz, hz2, g0, g1, g2, toClient, toPool, toOp, hi, hs, eqClient]
          · simp only [hok, askV, Bool.false_eq_true, if_false, if_true] at hi hs
            simp [F8, rcall, hz, hz2, g0, g1, g2, toClient, toPool, toOp, hi, hs, eqClient]
      · simp [F8, rcall, hz, hz2, g0, g1, g2]
    · simp [F8, rcall, hz, g0, g1]
  · simp [F8, rcall, g0]
theorem lawClientAsk (avs : List AV) (h : PFitsAll [(true, [.int .i64, .int .i64, .bool, .int .i64, .int .i64, .str, .int .i64, .int .i64, .str, .int .i64]), (true, [.int .i64, .int .i64, .int .i64, .int .i64, .int .i64, .int .i64]), (false, [.str]), (true, [.int .i64, .int .i64, .str])] avs) : ∃ n bs e, call code n 8 avs [] = some ⟨.bool true, bs, e⟩ := by
  obtain ⟨v0, r, rfl, h0, h⟩ := h.cons_inv
  obtain ⟨v1, r, rfl, i1, h⟩ := h.cons_inv
  obtain ⟨v2, r, rfl, i2, h⟩ := h.cons_inv
  obtain ⟨v3, r, rfl, i3, h⟩ := h.cons_inv
  obtain rfl := h.nil_inv
  clear h
  obtain ⟨cs, rfl, f0⟩ := h0.agg_inv
  clear h0
  obtain ⟨_, _, rfl, hc, f1⟩ := f0.cons_inv
  clear f0
  obtain ⟨x0, rfl, wx0⟩ := hc.i64_inv
  clear hc
  obtain ⟨_, _, rfl, hc, f2⟩ := f1.cons_inv
  clear f1
  obtain ⟨x1, rfl, wx1⟩ := hc.i64_inv
  clear hc
  obtain ⟨_, _, rfl, hc, f3⟩ := f2.cons_inv
  clear f2
  obtain ⟨x2, rfl⟩ := hc.bool_inv
  clear hc
  obtain ⟨_, _, rfl, hc, f4⟩ := f3.cons_inv
  clear f3
  obtain ⟨x3, rfl, wx3⟩ := hc.i64_inv
  clear hc
  obtain ⟨_, _, rfl, hc, f5⟩ := f4.cons_inv
  clear f4
  obtain ⟨x4, rfl, wx4⟩ := hc.i64_inv
  clear hc
  obtain ⟨_, _, rfl, hc, f6⟩ := f5.cons_inv
  clear f5
  obtain ⟨x5, rfl, wx5⟩ := hc.str_inv
  clear hc
  obtain ⟨_, _, rfl, hc, f7⟩ := f6.cons_inv
  clear f6
  obtain ⟨x6, rfl, wx6⟩ := hc.i64_inv
  clear hc
  obtain ⟨_, _, rfl, hc, f8⟩ := f7.cons_inv
  clear f7
  obtain ⟨x7, rfl, wx7⟩ := hc.i64_inv
  clear hc
  obtain ⟨_, _, rfl, hc, f9⟩ := f8.cons_inv
  clear f8
  obtain ⟨x8, rfl, wx8⟩ := hc.str_inv
  clear hc
  obtain ⟨_, _, rfl, hc, f10⟩ := f9.cons_inv
  clear f9
  obtain ⟨x9, rfl, wx9⟩ := hc.i64_inv
  clear hc
  obtain rfl := f10.nil_inv
  clear f10
  obtain ⟨cs, rfl, f0⟩ := i1.agg_inv
  clear i1
  obtain ⟨_, _, rfl, hc, f1⟩ := f0.cons_inv
  clear f0
  obtain ⟨y0, rfl, wy0⟩ := hc.i64_inv
  clear hc
  obtain ⟨_, _, rfl, hc, f2⟩ := f1.cons_inv
  clear f1
  obtain ⟨y1, rfl, wy1⟩ := hc.i64_inv
  clear hc
  obtain ⟨_, _, rfl, hc, f3⟩ := f2.cons_inv
  clear f2
  obtain ⟨y2, rfl, wy2⟩ := hc.i64_inv
  clear hc
  obtain ⟨_, _, rfl, hc, f4⟩ := f3.cons_inv
  clear f3
  obtain ⟨y3, rfl, wy3⟩ := hc.i64_inv
  clear hc
  obtain ⟨_, _, rfl, hc, f5⟩ := f4.cons_inv
  clear f4
  obtain ⟨y4, rfl, wy4⟩ := hc.i64_inv
  clear hc
  obtain ⟨_, _, rfl, hc, f6⟩ := f5.cons_inv
  clear f5
  obtain ⟨y5, rfl, wy5⟩ := hc.i64_inv
  clear hc
  obtain rfl := f6.nil_inv
  clear f6
  obtain ⟨z, rfl, wz⟩ := i2.one_inv.str_inv
  obtain ⟨cs, rfl, f0⟩ := i3.agg_inv
  clear i3
  obtain ⟨_, _, rfl, hc, f1⟩ := f0.cons_inv
  clear f0
  obtain ⟨u0, rfl, wu0⟩ := hc.i64_inv
  clear hc
  obtain ⟨_, _, rfl, hc, f2⟩ := f1.cons_inv
  clear f1
  obtain ⟨u1, rfl, wu1⟩ := hc.i64_inv
  clear hc
  obtain ⟨_, _, rfl, hc, f3⟩ := f2.cons_inv
  clear f2
  obtain ⟨u2, rfl, wu2⟩ := hc.str_inv
  clear hc
  obtain rfl := f3.nil_inv
  clear f3
  exact ⟨_, _, _, law8 0 _ _ _ _ _ _ _ _ _ _ _ _ _ _ _ _ _ _ _ _ wx5 wx8 wz wu2⟩
end Go.Ae.R1
