/- The program's SendTo and the reference's. -/
import Derived.Test.YtfhkgkbglihnkaaR7D
namespace Go.Ae.R7
set_option linter.unusedSimpArgs false
set_option linter.unusedVariables false
theorem isNode (k : Nat) (a : Int) : call code (k + 2) 18 [.int .i64 a] [] = some ⟨.bool (inB a 0 15), [], []⟩ := by
  refine call_run rfl fn18 rfl ?_
  simp [F18, rcall, between]
  repeat' ((first | apply RunG_ncase | apply RunB_ncase | apply RunG_case | apply RunB_case | apply RunP_case) <;> intro h <;> simp [h, rcall, between])
theorem nodeOk (k : Nat) (a : Int) : call code (k + 2) 14 [.int .i64 a] [] = some ⟨.bool (inB a 0 15), [], []⟩ := by
  refine call_run rfl fn14 rfl ?_
  simp [F14, rcall, l00In]
  repeat' ((first | apply RunG_ncase | apply RunB_ncase | apply RunG_case | apply RunB_case | apply RunP_case) <;> intro h <;> simp [h, rcall, l00In])
theorem req (k : Nat) (id no : Int) (busy : Bool) (pool pno : Int) (nm : ByteArray) (n t : Int) (s : ByteArray) (tr : Int) : call code (k + 1) 19 [.agg [.int .i64 id, .int .i64 no, .bool busy, .int .i64 pool, .int .i64 pno, .str nm, .int .i64 n, .int .i64 t, .str s, .int .i64 tr]] [] = some ⟨.agg [.int .i64 id, .int .i64 no], [], []⟩ := by
  refine call_run rfl fn19 rfl ?_
  simp [F19]
  repeat' ((first | apply RunG_ncase | apply RunB_ncase | apply RunG_case | apply RunB_case | apply RunP_case) <;> intro h <;> simp [h])
def sendC (ok go : Bool) (id no : Int) (busy : Bool) (pool pno : Int) (nm : ByteArray) (n t : Int) (s : ByteArray) (tr : Int) : AV := if ok then (if go then .agg [.int .i64 id, .int .i64 no, .bool busy, .int .i64 pool, .int .i64 pno, .str nm, .int .i64 n, .int .i64 t, .str s, .int .i64 (tr + 1)] else .agg [.int .i64 id, .int .i64 no, .bool busy, .int .i64 pool, .int .i64 pno, .str nm, .int .i64 n, .int .i64 t, .str s, .int .i64 tr]) else .agg [.int .i64 0, .int .i64 0, .bool false, .int .i64 0, .int .i64 0, .str ByteArray.empty, .int .i64 0, .int .i64 0, .str ByteArray.empty, .int .i64 0]
def sendM (ok go : Bool) (id no : Int) (busy : Bool) (pool pno : Int) (nm : ByteArray) (n t : Int) (s : ByteArray) (tr : Int) (ld : Int) : AV := if ok && go then .agg [.int .i64 13, .int .i64 id, .int .i64 ld, .int .i64 pool, .int .i64 pno, .int .i64 0, .str nm, .int .i64 0, .int .i64 0, .int .i64 0, .int .i64 0, .int .i64 0, .int .i64 0, .int .i64 0, .int .i64 0, .int .i64 0, .int .i64 0, .sl 0 0 0 [] 0 0, .sl 0 1 0 [] 0 0, .sl 0 2 0 [] 0 0, .int .i64 0, .int .i64 0, .sl 0 3 0 [] 0 0, .int .i64 0, .int .i64 0, .int .i64 0, .int .i64 0, .str ByteArray.empty, .bool false, .int .i64 0, .int .i64 0, .int .i64 0, .int .i64 0, .str ByteArray.empty, .int .i64 0, .int .i64 0, .int .i64 0, .int .i64 0, .str ByteArray.empty, .int .i64 n, .int .i64 t, .str s, .int .i64 id, .int .i64 no, .int .i64 0, .str ByteArray.empty] else .agg [.int .i64 0, .int .i64 0, .int .i64 0, .int .i64 0, .int .i64 0, .int .i64 0, .str ByteArray.empty, .int .i64 0, .int .i64 0, .int .i64 0, .int .i64 0, .int .i64 0, .int .i64 0, .int .i64 0, .int .i64 0, .int .i64 0, .int .i64 0, .sl 0 0 0 [] 0 0, .sl 0 1 0 [] 0 0, .sl 0 2 0 [] 0 0, .int .i64 0, .int .i64 0, .sl 0 3 0 [] 0 0, .int .i64 0, .int .i64 0, .int .i64 0, .int .i64 0, .str ByteArray.empty, .bool false, .int .i64 0, .int .i64 0, .int .i64 0, .int .i64 0, .str ByteArray.empty, .int .i64 0, .int .i64 0, .int .i64 0, .int .i64 0, .str ByteArray.empty, .int .i64 0, .int .i64 0, .str ByteArray.empty, .int .i64 0, .int .i64 0, .int .i64 0, .str ByteArray.empty]
def blks4 : List Blk := [⟨0, 5, false, true, []⟩, ⟨0, 4, false, true, []⟩, ⟨0, 10, false, true, []⟩, ⟨0, 6, false, true, []⟩]
def goB (busy : Bool) (ld tr : Int) : Bool := busy && inB ld 0 15 && !(tr == 1000)
theorem caller_tr {id no : Int} {busy : Bool} {pool pno : Int} {nm : ByteArray} {n t : Int} {s : ByteArray} {tr : Int} (h : callerB id no busy pool pno nm n t s tr = true) : 0 ≤ tr ∧ tr ≤ 1000 := by
  simp [callerB, inB] at h; omega
set_option maxRecDepth 100000 in
set_option maxHeartbeats 8000000 in
theorem implSendTo (k : Nat) (id no : Int) (busy : Bool) (pool pno : Int) (nm : ByteArray) (n t : Int) (s : ByteArray) (tr : Int) (ld : Int) (h1 : nm.size ≤ 1048576) (h2 : s.size ≤ 1048576) :
    call code (k + 8) 7 [.agg [.int .i64 id, .int .i64 no, .bool busy, .int .i64 pool, .int .i64 pno, .str nm, .int .i64 n, .int .i64 t, .str s, .int .i64 tr], .int .i64 ld] [] = some ⟨.tup [sendC (callerB id no busy pool pno nm n t s tr) (goB busy ld tr) id no busy pool pno nm n t s tr, sendM (callerB id no busy pool pno nm n t s tr) (goB busy ld tr) id no busy pool pno nm n t s tr ld, .bool (callerB id no busy pool pno nm n t s tr && goB busy ld tr)], blks4, []⟩ := by
  refine call_run rfl fn7 rfl ?_
  have hca := fun k => implCallerOk k id no busy pool pno nm n t s tr h1 h2
  cases hA : callerB id no busy pool pno nm n t s tr
  · simp [F7, rcall, hca, isNode, req, List.eraseDups, List.eraseDupsBy, List.eraseDupsBy.loop, outR, List.idxOf, List.findIdx, List.findIdx.go, hA, sendC, sendM, blks4]
  have htr := caller_tr hA
  have hw := wrap64 (show -9223372036854775808 ≤ tr + 1 ∧ tr + 1 ≤ 9223372036854775807 from ⟨by omega, by omega⟩)
  cases busy
  · simp [F7, rcall, hca, isNode, req, List.eraseDups, List.eraseDupsBy, List.eraseDupsBy.loop, outR, List.idxOf, List.findIdx, List.findIdx.go, hA, goB, sendC, sendM, blks4]
  cases hB : inB ld 0 15
  · simp [F7, rcall, hca, isNode, req, List.eraseDups, List.eraseDupsBy, List.eraseDupsBy.loop, outR, List.idxOf, List.findIdx, List.findIdx.go, hA, hB, goB, sendC, sendM, blks4]
  by_cases h5 : tr = 1000
  · subst h5
    simp [F7, rcall, hca, isNode, req, List.eraseDups, List.eraseDupsBy, List.eraseDupsBy.loop, outR, List.idxOf, List.findIdx, List.findIdx.go, hA, hB, goB, sendC, sendM, blks4]
  · have h6 : (tr == 1000) = false := by simpa using h5
    have h7 : decide (1000 ≤ tr) = false := by simp; omega
    simp [F7, rcall, hca, isNode, req, List.eraseDups, List.eraseDupsBy, List.eraseDupsBy.loop, outR, List.idxOf, List.findIdx, List.findIdx.go, hA, hB, goB, sendC, sendM, blks4, h5, h6, h7, hw]
set_option maxRecDepth 100000 in
set_option maxHeartbeats 8000000 in
theorem specSendTo (k : Nat) (id no : Int) (busy : Bool) (pool pno : Int) (nm : ByteArray) (n t : Int) (s : ByteArray) (tr : Int) (ld : Int) (h1 : nm.size ≤ 1048576) (h2 : s.size ≤ 1048576) :
    call code (k + 8) 5 [.agg [.int .i64 id, .int .i64 no, .bool busy, .int .i64 pool, .int .i64 pno, .str nm, .int .i64 n, .int .i64 t, .str s, .int .i64 tr], .int .i64 ld] [] = some ⟨.tup [sendC (callerB id no busy pool pno nm n t s tr) (goB busy ld tr) id no busy pool pno nm n t s tr, sendM (callerB id no busy pool pno nm n t s tr) (goB busy ld tr) id no busy pool pno nm n t s tr ld, .bool (callerB id no busy pool pno nm n t s tr && goB busy ld tr)], blks4, []⟩ := by
  refine call_run rfl fn5 rfl ?_
  have hca := fun k => specCallerOk k id no busy pool pno nm n t s tr h1 h2
  cases hA : callerB id no busy pool pno nm n t s tr
  · simp [F5, rcall, hca, nodeOk, nodeOk, List.eraseDups, List.eraseDupsBy, List.eraseDupsBy.loop, outR, List.idxOf, List.findIdx, List.findIdx.go, hA, sendC, sendM, blks4]
  have htr := caller_tr hA
  have hw := wrap64 (show -9223372036854775808 ≤ tr + 1 ∧ tr + 1 ≤ 9223372036854775807 from ⟨by omega, by omega⟩)
  cases busy
  · simp [F5, rcall, hca, nodeOk, nodeOk, List.eraseDups, List.eraseDupsBy, List.eraseDupsBy.loop, outR, List.idxOf, List.findIdx, List.findIdx.go, hA, goB, sendC, sendM, blks4]
  cases hB : inB ld 0 15
  · simp [F5, rcall, hca, nodeOk, nodeOk, List.eraseDups, List.eraseDupsBy, List.eraseDupsBy.loop, outR, List.idxOf, List.findIdx, List.findIdx.go, hA, hB, goB, sendC, sendM, blks4]
  by_cases h5 : tr = 1000
  · subst h5
    simp [F5, rcall, hca, nodeOk, nodeOk, List.eraseDups, List.eraseDupsBy, List.eraseDupsBy.loop, outR, List.idxOf, List.findIdx, List.findIdx.go, hA, hB, goB, sendC, sendM, blks4]
  · have h6 : (tr == 1000) = false := by simpa using h5
    have h7 : decide (1000 ≤ tr) = false := by simp; omega
    simp [F5, rcall, hca, nodeOk, nodeOk, List.eraseDups, List.eraseDupsBy, List.eraseDupsBy.loop, outR, List.idxOf, List.findIdx, List.findIdx.go, hA, hB, goB, sendC, sendM, blks4, h5, h6, h7, hw]
end Go.Ae.R7
