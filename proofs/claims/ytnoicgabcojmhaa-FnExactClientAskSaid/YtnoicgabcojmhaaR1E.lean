/- The program's CallOf and the reference's, and what compares them. -/
import Derived.Test.YtnoicgabcojmhaaR1C
namespace Go.Ae.R1
set_option linter.unusedSimpArgs false
set_option linter.unusedVariables false
def callV (c : Bool) (id no pool pno : Int) (nm : ByteArray) (n t : Int) (s : ByteArray) (b : Int) : AV := if c then .agg [.int .i64 id, .int .i64 no, .int .i64 pool, .int .i64 pno, .str nm, .int .i64 n, .int .i64 t, .str s, .int .i64 b, .int .i64 0, .int .i64 0, .int .i64 0, .int .i64 0, .str ByteArray.empty]
  else .agg [.int .i64 0, .int .i64 0, .int .i64 0, .int .i64 0, .str ByteArray.empty, .int .i64 0, .int .i64 0, .str ByteArray.empty, .int .i64 0, .int .i64 0, .int .i64 0, .int .i64 0, .int .i64 0, .str ByteArray.empty]
theorem eqPg (k : Nat) (a b : Int) : call code (k + 1) 49 [.agg [.int .i64 a, .int .i64 b], .agg [.int .i64 a, .int .i64 b]] [] = some ⟨.bool true, [], []⟩ := by
  refine call_run rfl fn49 rfl ?_
  simp [F49]
  repeat' ((first | apply RunG_ncase | apply RunB_ncase | apply RunG_case | apply RunB_case | apply RunP_case) <;> intro h <;> simp [h])
theorem eqVer (k : Nat) (a b : Int) : call code (k + 1) 51 [.agg [.int .i64 a, .int .i64 b], .agg [.int .i64 a, .int .i64 b]] [] = some ⟨.bool true, [], []⟩ := by
  refine call_run rfl fn51 rfl ?_
  simp [F51]
  repeat' ((first | apply RunG_ncase | apply RunB_ncase | apply RunG_case | apply RunB_case | apply RunP_case) <;> intro h <;> simp [h])
theorem eqOp (k : Nat) (a b : Int) (s : ByteArray) : call code (k + 1) 50 [.agg [.int .i64 a, .int .i64 b, .str s], .agg [.int .i64 a, .int .i64 b, .str s]] [] = some ⟨.bool true, [], []⟩ := by
  refine call_run rfl fn50 rfl ?_
  simp [F50]
  repeat' ((first | apply RunG_ncase | apply RunB_ncase | apply RunG_case | apply RunB_case | apply RunP_case) <;> intro h <;> simp [h])
theorem eqCall (k : Nat) (a b c d : Int) (e : ByteArray) (f g : Int) (h : ByteArray) (i j l m n : Int) (o : ByteArray) : call code (k + 2) 15 [.agg [.int .i64 a, .int .i64 b, .int .i64 c, .int .i64 d, .str e, .int .i64 f, .int .i64 g, .str h, .int .i64 i, .int .i64 j, .int .i64 l, .int .i64 m, .int .i64 n, .str o], .agg [.int .i64 a, .int .i64 b, .int .i64 c, .int .i64 d, .str e, .int .i64 f, .int .i64 g, .str h, .int .i64 i, .int .i64 j, .int .i64 l, .int .i64 m, .int .i64 n, .str o]] [] = some ⟨.bool true, [], []⟩ := by
  refine call_run rfl fn15 rfl ?_
  simp [F15, rcall, eqPg, eqOp, eqVer]
  repeat' ((first | apply RunG_ncase | apply RunB_ncase | apply RunG_case | apply RunB_case | apply RunP_case) <;> intro h <;> simp [h, rcall, eqPg, eqOp, eqVer])
theorem specCallOf (k : Nat) (id no : Int) (busy : Bool) (pool pno : Int) (nm : ByteArray) (n t : Int) (s : ByteArray) (tr : Int) (bg : Int) (h1 : nm.size ≤ 1048576) (h2 : s.size ≤ 1048576) : call code (k + 8) 13 [.agg [.int .i64 id, .int .i64 no, .bool busy, .int .i64 pool, .int .i64 pno, .str nm, .int .i64 n, .int .i64 t, .str s, .int .i64 tr], .int .i64 bg] [] = some ⟨callV (callerB id no busy pool pno nm n t s tr && busy && decide (1 ≤ bg)) id no pool pno nm n t s bg, [], []⟩ := by
  refine call_run rfl fn13 rfl ?_
  simp [F13, rcall, specCallerOk _ _ _ _ _ _ _ _ _ _ _ h1 h2]
  repeat' ((first | apply RunG_ncase | apply RunB_ncase | apply RunG_case | apply RunB_case | apply RunP_case) <;> intro h <;> simp [h, rcall, specCallerOk _ _ _ _ _ _ _ _ _ _ _ h1 h2])
  all_goals (simp_all [callV])
  all_goals (intros; omega)
theorem implCallOf (k : Nat) (id no : Int) (busy : Bool) (pool pno : Int) (nm : ByteArray) (n t : Int) (s : ByteArray) (tr : Int) (bg : Int) (h1 : nm.size ≤ 1048576) (h2 : s.size ≤ 1048576) : call code (k + 8) 14 [.agg [.int .i64 id, .int .i64 no, .bool busy, .int .i64 pool, .int .i64 pno, .str nm, .int .i64 n, .int .i64 t, .str s, .int .i64 tr], .int .i64 bg] [] = some ⟨callV (callerB id no busy pool pno nm n t s tr && busy && decide (1 ≤ bg)) id no pool pno nm n t s bg, [], []⟩ := by
  refine call_run rfl fn14 rfl ?_
  simp [F14, rcall, implCallerOk _ _ _ _ _ _ _ _ _ _ _ h1 h2]
  repeat' ((first | apply RunG_ncase | apply RunB_ncase | apply RunG_case | apply RunB_case | apply RunP_case) <;> intro h <;> simp [h, rcall, implCallerOk _ _ _ _ _ _ _ _ _ _ _ h1 h2])
  all_goals (simp_all [callV])
  all_goals (intros; omega)
theorem law4 (k : Nat) (id no : Int) (busy : Bool) (pool pno : Int) (nm : ByteArray) (n t : Int) (s : ByteArray) (tr : Int) (bg : Int) (h1 : nm.size ≤ 140737488351232) (h2 : s.size ≤ 140737488351232) :
    call code (k + 9) 4 [.agg [.int .i64 id, .int .i64 no, .bool busy, .int .i64 pool, .int .i64 pno, .str nm, .int .i64 n, .int .i64 t, .str s, .int .i64 tr], .int .i64 bg] [] = some ⟨.bool true, [], []⟩ := by
  refine call_run rfl fn4 rfl ?_
  have hz := fun k => szClient k id no busy pool pno nm n t s tr 1048576 (by omega) h1 h2
  simp [F4, rcall, hz]
  apply RunB_case <;> intro h
  · simp [h]
  · have hb : nm.size ≤ 1048576 ∧ s.size ≤ 1048576 := by
      simp only [decide_eq_false_iff_not, szClientI, szS] at h
      by_cases g1 : (1048576 : Int) - nm.size < 0
      · simp [g1] at h
      · by_cases g2 : (1048576 : Int) - nm.size - s.size < 0
        · simp [g1, g2] at h
        · omega
    have hs := fun k => specCallOf k id no busy pool pno nm n t s tr bg hb.1 hb.2
    have hi := fun k => implCallOf k id no busy pool pno nm n t s tr bg hb.1 hb.2
    cases hc : (callerB id no busy pool pno nm n t s tr && busy && decide (1 ≤ bg)) <;> simp only [hc, callV, Bool.false_eq_true, if_false, if_true] at hs hi <;> simp [h, rcall, toClient, hs, hi, eqCall]
theorem lawCallOf (avs : List AV) (h : PFitsAll [(true, [.int .i64, .int .i64, .bool, .int .i64, .int .i64, .str, .int .i64, .int .i64, .str, .int .i64]), (false, [.int .i64])] avs) : ∃ n bs e, call code n 4 avs [] = some ⟨.bool true, bs, e⟩ := by
  obtain ⟨v0, r, rfl, h0, h⟩ := h.cons_inv
  obtain ⟨v1, r, rfl, g1, h⟩ := h.cons_inv
  obtain rfl := h.nil_inv
  obtain ⟨b, rfl, wb⟩ := g1.one_inv.i64_inv
  obtain ⟨cs, rfl, f0⟩ := h0.agg_inv
  clear h0 h
  obtain ⟨_, _, rfl, hc, f1⟩ := f0.cons_inv
  clear f0
  obtain ⟨x0, rfl, w0⟩ := hc.i64_inv
  clear hc
  obtain ⟨_, _, rfl, hc, f2⟩ := f1.cons_inv
  clear f1
  obtain ⟨x1, rfl, w1⟩ := hc.i64_inv
  clear hc
  obtain ⟨_, _, rfl, hc, f3⟩ := f2.cons_inv
  clear f2
  obtain ⟨x2, rfl⟩ := hc.bool_inv
  clear hc
  obtain ⟨_, _, rfl, hc, f4⟩ := f3.cons_inv
  clear f3
  obtain ⟨x3, rfl, w3⟩ := hc.i64_inv
  clear hc
  obtain ⟨_, _, rfl, hc, f5⟩ := f4.cons_inv
  clear f4
  obtain ⟨x4, rfl, w4⟩ := hc.i64_inv
  clear hc
  obtain ⟨_, _, rfl, hc, f6⟩ := f5.cons_inv
  clear f5
  obtain ⟨x5, rfl, w5⟩ := hc.str_inv
  clear hc
  obtain ⟨_, _, rfl, hc, f7⟩ := f6.cons_inv
  clear f6
  obtain ⟨x6, rfl, w6⟩ := hc.i64_inv
  clear hc
  obtain ⟨_, _, rfl, hc, f8⟩ := f7.cons_inv
  clear f7
  obtain ⟨x7, rfl, w7⟩ := hc.i64_inv
  clear hc
  obtain ⟨_, _, rfl, hc, f9⟩ := f8.cons_inv
  clear f8
  obtain ⟨x8, rfl, w8⟩ := hc.str_inv
  clear hc
  obtain ⟨_, _, rfl, hc, f10⟩ := f9.cons_inv
  clear f9
  obtain ⟨x9, rfl, w9⟩ := hc.i64_inv
  clear hc
  obtain rfl := f10.nil_inv
  exact ⟨_, _, _, law4 0 _ _ _ _ _ _ _ _ _ _ _ w5 w8⟩
end Go.Ae.R1
