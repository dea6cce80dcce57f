/- The program's ClientAsk and the reference's, and what compares them. -/
import Derived.Test.YtnoicgabcojmhaaR1E
import Derived.Test.YtnoicgabcojmhaaR1F
namespace Go.Ae.R1
set_option linter.unusedSimpArgs false
set_option linter.unusedVariables false
theorem toCode (k : Nat) (a b : Int) : call code (k + 1) 71 [.agg [.int .i64 a, .int .i64 b]] [] = some ⟨.agg [.int .i64 a, .int .i64 b], [], []⟩ := by
  refine call_run rfl fn71 rfl ?_
  simp [F71]
  repeat' ((first | apply RunG_ncase | apply RunB_ncase | apply RunG_case | apply RunB_case | apply RunP_case) <;> intro h <;> simp [h])
theorem toPool (k : Nat) (pid pk pm pmin pgs ru : Int) : call code (k + 2) 32 [.agg [.int .i64 pid, .int .i64 pk, .int .i64 pm, .int .i64 pmin, .int .i64 pgs, .int .i64 ru]] [] = some ⟨.agg [.int .i64 pid, .int .i64 pk, .int .i64 pm, .int .i64 pmin, .int .i64 pgs, .int .i64 ru], [], []⟩ := by
  refine call_run rfl fn32 rfl ?_
  simp [F32, rcall, toCode]
  repeat' ((first | apply RunG_ncase | apply RunB_ncase | apply RunG_case | apply RunB_case | apply RunP_case) <;> intro h <;> simp [h, rcall, toCode])
theorem codeSize (k : Nat) (a b : Int) (h : -9223372036854775808 ≤ a + b ∧ a + b ≤ 9223372036854775807) : call code (k + 1) 85 [.agg [.int .i64 a, .int .i64 b]] [] = some ⟨.int .i64 (a + b), [], []⟩ := by
  refine call_run rfl fn85 rfl ?_
  simp [F85, wrap64 h]
def poolB (pid pk pm pmin pgs ru : Int) : Bool := inB pid 1 4 && codeOkB pk pm && inB pmin pk (pk + pm) && inB pgs 1 16 && inB ru 1 4
theorem code_rng {a b : Int} (h : (inB a 1 4 && inB b 0 3) = true) : -9223372036854775808 ≤ a + b ∧ a + b ≤ 9223372036854775807 := by
  simp [inB] at h; omega
theorem l09OK (k : Nat) (pid pk pm pmin pgs ru : Int) : call code (k + 3) 83 [.agg [.int .i64 pid, .int .i64 pk, .int .i64 pm, .int .i64 pmin, .int .i64 pgs, .int .i64 ru]] [] = some ⟨.bool (poolB pid pk pm pmin pgs ru), [], []⟩ := by
  refine call_run rfl fn83 rfl ?_
  cases hc : (inB pk 1 4 && inB pm 0 3)
  · simp [F83, rcall, l00In, l04Code, hc]
    repeat' ((first | apply RunG_ncase | apply RunB_ncase | apply RunG_case | apply RunB_case | apply RunP_case) <;> intro h <;> simp [h, hc, rcall, l00In, l04Code])
    all_goals (simp_all [poolB, codeOkB])
  · have hw := wrap64 (code_rng hc)
    simp [F83, rcall, l00In, l04Code, hc, hw]
    repeat' ((first | apply RunG_ncase | apply RunB_ncase | apply RunG_case | apply RunB_case | apply RunP_case) <;> intro h <;> simp [h, hc, hw, rcall, l00In, l04Code])
    all_goals (simp_all [poolB, codeOkB])
theorem implPoolOk (k : Nat) (pid pk pm pmin pgs ru : Int) : call code (k + 3) 72 [.agg [.int .i64 pid, .int .i64 pk, .int .i64 pm, .int .i64 pmin, .int .i64 pgs, .int .i64 ru]] [] = some ⟨.bool (poolB pid pk pm pmin pgs ru), [], []⟩ := by
  refine call_run rfl fn72 rfl ?_
  cases hc : (inB pk 1 4 && inB pm 0 3)
  · simp [F72, rcall, between, implCodeOk, hc]
    repeat' ((first | apply RunG_ncase | apply RunB_ncase | apply RunG_case | apply RunB_case | apply RunP_case) <;> intro h <;> simp [h, hc, rcall, between, implCodeOk])
    all_goals (simp_all [poolB, codeOkB])
  · have hz := fun k => codeSize k pk pm (code_rng hc)
    simp [F72, rcall, between, implCodeOk, hc, hz]
    repeat' ((first | apply RunG_ncase | apply RunB_ncase | apply RunG_case | apply RunB_case | apply RunP_case) <;> intro h <;> simp [h, hc, hz, rcall, between, implCodeOk])
    all_goals (simp_all [poolB, codeOkB])
theorem eqClient (k : Nat) (id no : Int) (busy : Bool) (pool pno : Int) (nm : ByteArray) (n t : Int) (s : ByteArray) (tr : Int) : call code (k + 2) 35 [.agg [.int .i64 id, .int .i64 no, .bool busy, .int .i64 pool, .int .i64 pno, .str nm, .int .i64 n, .int .i64 t, .str s, .int .i64 tr], .agg [.int .i64 id, .int .i64 no, .bool busy, .int .i64 pool, .int .i64 pno, .str nm, .int .i64 n, .int .i64 t, .str s, .int .i64 tr]] [] = some ⟨.bool true, [], []⟩ := by
  refine call_run rfl fn35 rfl ?_
  simp [F35, rcall, eqPg, eqOp]
  repeat' ((first | apply RunG_ncase | apply RunB_ncase | apply RunG_case | apply RunB_case | apply RunP_case) <;> intro h <;> simp [h, rcall, eqPg, eqOp])
theorem specPoolOk (k : Nat) (pid pk pm pmin pgs ru : Int) : call code (k + 4) 69 [.agg [.int .i64 pid, .int .i64 pk, .int .i64 pm, .int .i64 pmin, .int .i64 pgs, .int .i64 ru]] [] = some ⟨.bool (poolB pid pk pm pmin pgs ru), [], []⟩ := by
  refine call_run rfl fn69 rfl ?_
  simp [F69, rcall, l09OK]
  repeat' ((first | apply RunG_ncase | apply RunB_ncase | apply RunG_case | apply RunB_case | apply RunP_case) <;> intro h <;> simp [h, rcall, l09OK])
theorem name_len {s : ByteArray} (h : nameB s = true) : s.size ≤ 8 := by
  simp [nameB] at h; omega
theorem pool_pgs {pid pk pm pmin pgs ru : Int} (h : poolB pid pk pm pmin pgs ru = true) : pgs ≠ 0 := by
  simp [poolB, inB] at h; omega
theorem caller_no {id no : Int} {busy : Bool} {pool pno : Int} {nm : ByteArray} {n t : Int} {s : ByteArray} {tr : Int} (h : callerB id no busy pool pno nm n t s tr = true) : 0 ≤ no ∧ no ≤ 1000 := by
  simp [callerB, inB] at h; omega
theorem specPgOf (k : Nat) (pid pk pm pmin pgs ru : Int) (s : ByteArray) (hp : poolB pid pk pm pmin pgs ru = true) (hs : nameB s = true) (hz : s.size ≤ 1048576) :
    call code (k + 4) 70 [.agg [.int .i64 pid, .int .i64 pk, .int .i64 pm, .int .i64 pmin, .int .i64 pgs, .int .i64 ru], .str s] [] = some ⟨.tup [.agg [.int .i64 pid, .int .i64 ((mixN (bytesN s) : Int).tmod pgs)], .bool true], [], []⟩ := by
  refine call_run rfl fn70 rfl ?_
  simp [F70, rcall, l09OK, hp, l09Name _ _ hz, hs, l09No _ _ _ _ _ _ _ _ (name_len hs) (pool_pgs hp)]
def askV (ok busy : Bool) (id no pid pgs : Int) (nm : ByteArray) (n t : Int) (s : ByteArray) : AV × Int :=
  if ok then (if busy then (.agg [.int .i64 0, .int .i64 0, .bool false, .int .i64 0, .int .i64 0, .str ByteArray.empty, .int .i64 0, .int .i64 0, .str ByteArray.empty, .int .i64 0], 5) else if no = 1000 then (.agg [.int .i64 0, .int .i64 0, .bool false, .int .i64 0, .int .i64 0, .str ByteArray.empty, .int .i64 0, .int .i64 0, .str ByteArray.empty, .int .i64 0], 4) else
    (.agg [.int .i64 id, .int .i64 (no + 1), .bool true, .int .i64 pid, .int .i64 ((mixN (bytesN nm) : Int).tmod pgs), .str nm, .int .i64 n, .int .i64 t, .str s, .int .i64 0], 0))
  else (.agg [.int .i64 0, .int .i64 0, .bool false, .int .i64 0, .int .i64 0, .str ByteArray.empty, .int .i64 0, .int .i64 0, .str ByteArray.empty, .int .i64 0], 1)
set_option maxHeartbeats 4000000 in
theorem implAsk (k : Nat) (id no : Int) (busy : Bool) (pool pno : Int) (nm : ByteArray) (n t : Int) (s : ByteArray) (tr : Int) (pid pk pm pmin pgs ru : Int) (nm2 : ByteArray) (n2 t2 : Int) (s2 : ByteArray) (h1 : nm.size ≤ 1048576) (h2 : s.size ≤ 1048576) (h3 : nm2.size ≤ 1048576) :
    call code (k + 8) 34 [.agg [.int .i64 id, .int .i64 no, .bool busy, .int .i64 pool, .int .i64 pno, .str nm, .int .i64 n, .int .i64 t, .str s, .int .i64 tr], .agg [.int .i64 pid, .int .i64 pk, .int .i64 pm, .int .i64 pmin, .int .i64 pgs, .int .i64 ru], .str nm2, .agg [.int .i64 n2, .int .i64 t2, .str s2]] [] = some ⟨.tup [(askV (callerB id no busy pool pno nm n t s tr && poolB pid pk pm pmin pgs ru && nameB nm2 && opOkB pk pm n2 t2 s2) busy id no pid pgs nm2 n2 t2 s2).1, .int .i64 (askV (callerB id no busy pool pno nm n t s tr && poolB pid pk pm pmin pgs ru && nameB nm2 && opOkB pk pm n2 t2 s2) busy id no pid pgs nm2 n2 t2 s2).2], [], []⟩ := by
  refine call_run rfl fn34 rfl ?_
  have hca := fun k => implCallerOk k id no busy pool pno nm n t s tr h1 h2
  have hna := fun k => implNameOk k nm2 h3
  cases hA : callerB id no busy pool pno nm n t s tr
  · simp [F34, rcall, hca, implPoolOk, hna, implOpOk, hA, askV]
  cases hB : poolB pid pk pm pmin pgs ru
  · simp [F34, rcall, hca, implPoolOk, hna, implOpOk, hA, hB, askV]
  cases hC : nameB nm2
  · simp [F34, rcall, hca, implPoolOk, hna, implOpOk, hA, hB, hC, askV]
  cases hD : opOkB pk pm n2 t2 s2
  · simp [F34, rcall, hca, implPoolOk, hna, implOpOk, hA, hB, hC, hD, askV]
  have hno := caller_no hA
  cases busy
  · have hpg := fun k => pgOf k pid pk pm pmin pgs ru nm2 (name_len hC) (pool_pgs hB)
    have hw := wrap64 (show -9223372036854775808 ≤ no + 1 ∧ no + 1 ≤ 9223372036854775807 from ⟨by omega, by omega⟩)
    by_cases h5 : no = 1000
    · subst h5
      simp [F34, rcall, hca, implPoolOk, hna, implOpOk, hA, hB, hC, hD, askV]
    · have h6 : (no == 1000) = false := by simpa using h5
      have h7 : decide (1000 ≤ no) = false := by simp; omega
      simp [F34, rcall, hca, implPoolOk, hna, implOpOk, hA, hB, hC, hD, askV, hpg, hw, h5, h6, h7]
  · simp [F34, rcall, hca, implPoolOk, hna, implOpOk, hA, hB, hC, hD, askV]
set_option maxHeartbeats 4000000 in
theorem specAsk (k : Nat) (id no : Int) (busy : Bool) (pool pno : Int) (nm : ByteArray) (n t : Int) (s : ByteArray) (tr : Int) (pid pk pm pmin pgs ru : Int) (nm2 : ByteArray) (n2 t2 : Int) (s2 : ByteArray) (h1 : nm.size ≤ 1048576) (h2 : s.size ≤ 1048576) (h3 : nm2.size ≤ 1048576) :
    call code (k + 8) 31 [.agg [.int .i64 id, .int .i64 no, .bool busy, .int .i64 pool, .int .i64 pno, .str nm, .int .i64 n, .int .i64 t, .str s, .int .i64 tr], .agg [.int .i64 pid, .int .i64 pk, .int .i64 pm, .int .i64 pmin, .int .i64 pgs, .int .i64 ru], .str nm2, .agg [.int .i64 n2, .int .i64 t2, .str s2]] [] = some ⟨.tup [(askV (callerB id no busy pool pno nm n t s tr && poolB pid pk pm pmin pgs ru && nameB nm2 && opOkB pk pm n2 t2 s2) busy id no pid pgs nm2 n2 t2 s2).1, .int .i64 (askV (callerB id no busy pool pno nm n t s tr && poolB pid pk pm pmin pgs ru && nameB nm2 && opOkB pk pm n2 t2 s2) busy id no pid pgs nm2 n2 t2 s2).2], [], []⟩ := by
  refine call_run rfl fn31 rfl ?_
  have hca := fun k => specCallerOk k id no busy pool pno nm n t s tr h1 h2
  have hna := fun k => specNameOk k nm2 h3
  cases hA : callerB id no busy pool pno nm n t s tr
  · simp [F31, rcall, hca, specPoolOk, hna, specOpOk, hA, askV]
  cases hB : poolB pid pk pm pmin pgs ru
  · simp [F31, rcall, hca, specPoolOk, hna, specOpOk, hA, hB, askV]
  cases hC : nameB nm2
  · simp [F31, rcall, hca, specPoolOk, hna, specOpOk, hA, hB, hC, askV]
  cases hD : opOkB pk pm n2 t2 s2
  · simp [F31, rcall, hca, specPoolOk, hna, specOpOk, hA, hB, hC, hD, askV]
  have hno := caller_no hA
  cases busy
  · have hpg := fun k => specPgOf k pid pk pm pmin pgs ru nm2 hB hC h3
    have hw := wrap64 (show -9223372036854775808 ≤ no + 1 ∧ no + 1 ≤ 9223372036854775807 from ⟨by omega, by omega⟩)
    by_cases h5 : no = 1000
    · subst h5
      simp [F31, rcall, hca, specPoolOk, hna, specOpOk, hA, hB, hC, hD, askV]
    · have h6 : (no == 1000) = false := by simpa using h5
      have h7 : decide (1000 ≤ no) = false := by simp; omega
      simp [F31, rcall, hca, specPoolOk, hna, specOpOk, hA, hB, hC, hD, askV, hpg, hw, h5, h6, h7]
  · simp [F31, rcall, hca, specPoolOk, hna, specOpOk, hA, hB, hC, hD, askV]
end Go.Ae.R1
