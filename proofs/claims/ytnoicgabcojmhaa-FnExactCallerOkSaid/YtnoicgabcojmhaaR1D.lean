import Derived.Test.YtnoicgabcojmhaaR1C
namespace Go.Ae.R1
set_option linter.unusedSimpArgs false
set_option linter.unusedVariables false
theorem law3 (k : Nat) (id no : Int) (busy : Bool) (pool pno : Int) (nm : ByteArray) (n t : Int) (s : ByteArray) (tr : Int) (h1 : nm.size ≤ 140737488351232) (h2 : s.size ≤ 140737488351232) :
    call code (k + 8) 3 [.agg [.int .i64 id, .int .i64 no, .bool busy, .int .i64 pool, .int .i64 pno, .str nm, .int .i64 n, .int .i64 t, .str s, .int .i64 tr]] [] = some ⟨.bool true, [], []⟩ := by
  refine call_run rfl fn3 rfl ?_
  have hz := fun k => szClient k id no busy pool pno nm n t s tr 1048576 (by omega) h1 h2
  simp [F3, rcall, hz]
  apply RunB_case <;> intro h
  · simp [h]
  · have hb : nm.size ≤ 1048576 ∧ s.size ≤ 1048576 := by
      simp only [decide_eq_false_iff_not, szClientI, szS] at h
      by_cases g1 : (1048576 : Int) - nm.size < 0
      · simp [g1] at h
      · by_cases g2 : (1048576 : Int) - nm.size - s.size < 0
        · simp [g1, g2] at h
        · omega
    simp [h, rcall, toClient, specCallerOk _ _ _ _ _ _ _ _ _ _ _ hb.1 hb.2, implCallerOk _ _ _ _ _ _ _ _ _ _ _ hb.1 hb.2]
theorem lawAll (avs : List AV) (h : PFitsAll [(true, [.int .i64, .int .i64, .bool, .int .i64, .int .i64, .str, .int .i64, .int .i64, .str, .int .i64])] avs) : ∃ n bs e, call code n 3 avs [] = some ⟨.bool true, bs, e⟩ := by
  obtain ⟨v0, r, rfl, h0, h⟩ := h.cons_inv
  obtain rfl := h.nil_inv
  obtain ⟨cs, rfl, f0⟩ := h0.agg_inv
  clear h0 h
  obtain ⟨_, _, rfl, hc, f1⟩ := f0.cons_inv
  clear f0
  obtain ⟨x0, rfl, w0⟩ := hc.i64_inv
  clear hc
  obtain ⟨_, _, rfl, hc, f2⟩ := f1.cons_inv
  clear f1
  obtain ⟨x1, rfl, w1⟩ := hc.i64_inv
  clear hc
  obtain ⟨_, _, rfl, hc, f3⟩ := f2.cons_inv
  clear f2
  obtain ⟨x2, rfl⟩ := hc.bool_inv
  clear hc
  obtain ⟨_, _, rfl, hc, f4⟩ := f3.cons_inv
  clear f3
  obtain ⟨x3, rfl, w3⟩ := hc.i64_inv
  clear hc
  obtain ⟨_, _, rfl, hc, f5⟩ := f4.cons_inv
  clear f4
  obtain ⟨x4, rfl, w4⟩ := hc.i64_inv
  clear hc
  obtain ⟨_, _, rfl, hc, f6⟩ := f5.cons_inv
  clear f5
  obtain ⟨x5, rfl, w5⟩ := hc.str_inv
  clear hc
  obtain ⟨_, _, rfl, hc, f7⟩ := f6.cons_inv
  clear f6
  obtain ⟨x6, rfl, w6⟩ := hc.i64_inv
  clear hc
  obtain ⟨_, _, rfl, hc, f8⟩ := f7.cons_inv
  clear f7
  obtain ⟨x7, rfl, w7⟩ := hc.i64_inv
  clear hc
  obtain ⟨_, _, rfl, hc, f9⟩ := f8.cons_inv
  clear f8
  obtain ⟨x8, rfl, w8⟩ := hc.str_inv
  clear hc
  obtain ⟨_, _, rfl, hc, f10⟩ := f9.cons_inv
  clear f9
  obtain ⟨x9, rfl, w9⟩ := hc.i64_inv
  clear hc
  obtain rfl := f10.nil_inv
  exact ⟨_, _, _, law3 0 _ _ _ _ _ _ _ _ _ _ w5 w8⟩
end Go.Ae.R1
