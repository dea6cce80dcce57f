/- The program's SendTo and the reference's: what compares and what marks. -/
import Derived.Test.YtfhkgkbglihnkaaR7C
namespace Go.Ae.R7
set_option linter.unusedSimpArgs false
set_option linter.unusedVariables false
theorem eqPg (k : Nat) (a b : Int) : call code (k + 1) 20 [.agg [.int .i64 a, .int .i64 b], .agg [.int .i64 a, .int .i64 b]] [] = some ⟨.bool true, [], []⟩ := by
  refine call_run rfl fn20 rfl ?_
  simp [F20]
  repeat' ((first | apply RunG_ncase | apply RunB_ncase | apply RunG_case | apply RunB_case | apply RunP_case) <;> intro h <;> simp [h])
theorem eqVer (k : Nat) (a b : Int) : call code (k + 1) 22 [.agg [.int .i64 a, .int .i64 b], .agg [.int .i64 a, .int .i64 b]] [] = some ⟨.bool true, [], []⟩ := by
  refine call_run rfl fn22 rfl ?_
  simp [F22]
  repeat' ((first | apply RunG_ncase | apply RunB_ncase | apply RunG_case | apply RunB_case | apply RunP_case) <;> intro h <;> simp [h])
theorem eqReq (k : Nat) (a b : Int) : call code (k + 1) 26 [.agg [.int .i64 a, .int .i64 b], .agg [.int .i64 a, .int .i64 b]] [] = some ⟨.bool true, [], []⟩ := by
  refine call_run rfl fn26 rfl ?_
  simp [F26]
  repeat' ((first | apply RunG_ncase | apply RunB_ncase | apply RunG_case | apply RunB_case | apply RunP_case) <;> intro h <;> simp [h])
theorem eqOp (k : Nat) (a b : Int) (s : ByteArray) : call code (k + 1) 21 [.agg [.int .i64 a, .int .i64 b, .str s], .agg [.int .i64 a, .int .i64 b, .str s]] [] = some ⟨.bool true, [], []⟩ := by
  refine call_run rfl fn21 rfl ?_
  simp [F21]
  repeat' ((first | apply RunG_ncase | apply RunB_ncase | apply RunG_case | apply RunB_case | apply RunP_case) <;> intro h <;> simp [h])
theorem eqClient (k : Nat) (id no : Int) (busy : Bool) (pool pno : Int) (nm : ByteArray) (n t : Int) (s : ByteArray) (tr : Int) : call code (k + 2) 8 [.agg [.int .i64 id, .int .i64 no, .bool busy, .int .i64 pool, .int .i64 pno, .str nm, .int .i64 n, .int .i64 t, .str s, .int .i64 tr], .agg [.int .i64 id, .int .i64 no, .bool busy, .int .i64 pool, .int .i64 pno, .str nm, .int .i64 n, .int .i64 t, .str s, .int .i64 tr]] [] = some ⟨.bool true, [], []⟩ := by
  refine call_run rfl fn8 rfl ?_
  simp [F8, rcall, eqPg, eqOp]
  repeat' ((first | apply RunG_ncase | apply RunB_ncase | apply RunG_case | apply RunB_case | apply RunP_case) <;> intro h <;> simp [h, rcall, eqPg, eqOp])
theorem eqHeadS (k : Nat) : call code (k + 1) 41 [.rd true [], .rd true []] [] = some ⟨.bool true, [], []⟩ := by
  refine call_run rfl fn41 rfl ?_
  simp [F41]
  apply RunC_once
  simp
theorem markHeadS (k : Nat) (x : Int) : call code (k + 1) 45 [.rd true [], .int .i64 x] [] = some ⟨.int .i64 x, [], []⟩ := by
  refine call_run rfl fn45 rfl ?_
  simp [F45]
  apply RunC_once
  simp
theorem heldHeadS (k : Nat) (x : Int) : call code (k + 1) 49 [.rd true [], .int .i64 x] [] = some ⟨.int .i64 x, [], []⟩ := by
  refine call_run rfl fn49 rfl ?_
  simp [F49]
  apply RunC_once
  simp
theorem eqLastS (k : Nat) : call code (k + 1) 42 [.rd true [], .rd true []] [] = some ⟨.bool true, [], []⟩ := by
  refine call_run rfl fn42 rfl ?_
  simp [F42]
  apply RunC_once
  simp
theorem markLastS (k : Nat) (x : Int) : call code (k + 1) 46 [.rd true [], .int .i64 x] [] = some ⟨.int .i64 x, [], []⟩ := by
  refine call_run rfl fn46 rfl ?_
  simp [F46]
  apply RunC_once
  simp
theorem heldLastS (k : Nat) (x : Int) : call code (k + 1) 50 [.rd true [], .int .i64 x] [] = some ⟨.int .i64 x, [], []⟩ := by
  refine call_run rfl fn50 rfl ?_
  simp [F50]
  apply RunC_once
  simp
theorem eqEntryS (k : Nat) : call code (k + 1) 43 [.rd true [], .rd true []] [] = some ⟨.bool true, [], []⟩ := by
  refine call_run rfl fn43 rfl ?_
  simp [F43]
  apply RunC_once
  simp
theorem markEntryS (k : Nat) (x : Int) : call code (k + 1) 47 [.rd true [], .int .i64 x] [] = some ⟨.int .i64 x, [], []⟩ := by
  refine call_run rfl fn47 rfl ?_
  simp [F47]
  apply RunC_once
  simp
theorem heldEntryS (k : Nat) (x : Int) : call code (k + 1) 51 [.rd true [], .int .i64 x] [] = some ⟨.int .i64 x, [], []⟩ := by
  refine call_run rfl fn51 rfl ?_
  simp [F51]
  apply RunC_once
  simp
theorem eqChunkS (k : Nat) : call code (k + 1) 44 [.rd true [], .rd true []] [] = some ⟨.bool true, [], []⟩ := by
  refine call_run rfl fn44 rfl ?_
  simp [F44]
  apply RunC_once
  simp
theorem markChunkS (k : Nat) (x : Int) : call code (k + 1) 48 [.rd true [], .int .i64 x] [] = some ⟨.int .i64 x, [], []⟩ := by
  refine call_run rfl fn48 rfl ?_
  simp [F48]
  apply RunC_once
  simp
theorem heldChunkS (k : Nat) (x : Int) : call code (k + 1) 52 [.rd true [], .int .i64 x] [] = some ⟨.int .i64 x, [], []⟩ := by
  refine call_run rfl fn52 rfl ?_
  simp [F52]
  apply RunC_once
  simp
theorem eqPgState (k : Nat) (c11 : Int) (c12 : Int) (c13 : Int) (c14 : Int) (c15 : Int) (c16 : Int) (c20 : Int) (c21 : Int) : call code (k + 2) 23 [.agg [.int .i64 c11, .int .i64 c12, .int .i64 c13, .int .i64 c14, .int .i64 c15, .int .i64 c16, .rd true [], .rd true [], .rd true [], .int .i64 c20, .int .i64 c21, .rd true []], .agg [.int .i64 c11, .int .i64 c12, .int .i64 c13, .int .i64 c14, .int .i64 c15, .int .i64 c16, .rd true [], .rd true [], .rd true [], .int .i64 c20, .int .i64 c21, .rd true []]] [] = some ⟨.bool true, [], []⟩ := by
  refine call_run rfl fn23 rfl ?_
  simp [F23, rcall, eqPg, eqVer, eqHeadS, eqLastS, eqEntryS, eqChunkS]
  repeat' ((first | apply RunG_ncase | apply RunB_ncase | apply RunG_case | apply RunB_case | apply RunP_case) <;> intro h <;> simp [h, rcall, eqPg, eqVer, eqHeadS, eqLastS, eqEntryS, eqChunkS])
theorem eqEntry (k : Nat) (c23 : Int) (c24 : Int) (c25 : Int) (c26 : Int) (c27 : ByteArray) (c28 : Bool) (c29 : Int) (c30 : Int) (c31 : Int) (c32 : Int) : call code (k + 2) 24 [.agg [.int .i64 c23, .int .i64 c24, .int .i64 c25, .int .i64 c26, .str c27, .bool c28, .int .i64 c29, .int .i64 c30, .int .i64 c31, .int .i64 c32], .agg [.int .i64 c23, .int .i64 c24, .int .i64 c25, .int .i64 c26, .str c27, .bool c28, .int .i64 c29, .int .i64 c30, .int .i64 c31, .int .i64 c32]] [] = some ⟨.bool true, [], []⟩ := by
  refine call_run rfl fn24 rfl ?_
  simp [F24, rcall, eqVer, eqReq]
  repeat' ((first | apply RunG_ncase | apply RunB_ncase | apply RunG_case | apply RunB_case | apply RunP_case) <;> intro h <;> simp [h, rcall, eqVer, eqReq])
theorem eqChunk (k : Nat) (c33 : ByteArray) (c34 : Int) (c35 : Int) (c36 : Int) (c37 : Int) (c38 : ByteArray) : call code (k + 2) 25 [.agg [.str c33, .int .i64 c34, .int .i64 c35, .int .i64 c36, .int .i64 c37, .str c38], .agg [.str c33, .int .i64 c34, .int .i64 c35, .int .i64 c36, .int .i64 c37, .str c38]] [] = some ⟨.bool true, [], []⟩ := by
  refine call_run rfl fn25 rfl ?_
  simp [F25, rcall, eqVer]
  repeat' ((first | apply RunG_ncase | apply RunB_ncase | apply RunG_case | apply RunB_case | apply RunP_case) <;> intro h <;> simp [h, rcall, eqVer])
set_option maxRecDepth 100000 in
set_option maxHeartbeats 4000000 in
theorem eqMsg (k : Nat) (c0 : Int) (c1 : Int) (c2 : Int) (c3 : Int) (c4 : Int) (c5 : Int) (c6 : ByteArray) (c7 : Int) (c8 : Int) (c9 : Int) (c10 : Int) (c11 : Int) (c12 : Int) (c13 : Int) (c14 : Int) (c15 : Int) (c16 : Int) (c20 : Int) (c21 : Int) (c23 : Int) (c24 : Int) (c25 : Int) (c26 : Int) (c27 : ByteArray) (c28 : Bool) (c29 : Int) (c30 : Int) (c31 : Int) (c32 : Int) (c33 : ByteArray) (c34 : Int) (c35 : Int) (c36 : Int) (c37 : Int) (c38 : ByteArray) (c39 : Int) (c40 : Int) (c41 : ByteArray) (c42 : Int) (c43 : Int) (c44 : Int) (c45 : ByteArray) : call code (k + 3) 9 [.agg [.int .i64 c0, .int .i64 c1, .int .i64 c2, .int .i64 c3, .int .i64 c4, .int .i64 c5, .str c6, .int .i64 c7, .int .i64 c8, .int .i64 c9, .int .i64 c10, .int .i64 c11, .int .i64 c12, .int .i64 c13, .int .i64 c14, .int .i64 c15, .int .i64 c16, .rd true [], .rd true [], .rd true [], .int .i64 c20, .int .i64 c21, .rd true [], .int .i64 c23, .int .i64 c24, .int .i64 c25, .int .i64 c26, .str c27, .bool c28, .int .i64 c29, .int .i64 c30, .int .i64 c31, .int .i64 c32, .str c33, .int .i64 c34, .int .i64 c35, .int .i64 c36, .int .i64 c37, .str c38, .int .i64 c39, .int .i64 c40, .str c41, .int .i64 c42, .int .i64 c43, .int .i64 c44, .str c45], .agg [.int .i64 c0, .int .i64 c1, .int .i64 c2, .int .i64 c3, .int .i64 c4, .int .i64 c5, .str c6, .int .i64 c7, .int .i64 c8, .int .i64 c9, .int .i64 c10, .int .i64 c11, .int .i64 c12, .int .i64 c13, .int .i64 c14, .int .i64 c15, .int .i64 c16, .rd true [], .rd true [], .rd true [], .int .i64 c20, .int .i64 c21, .rd true [], .int .i64 c23, .int .i64 c24, .int .i64 c25, .int .i64 c26, .str c27, .bool c28, .int .i64 c29, .int .i64 c30, .int .i64 c31, .int .i64 c32, .str c33, .int .i64 c34, .int .i64 c35, .int .i64 c36, .int .i64 c37, .str c38, .int .i64 c39, .int .i64 c40, .str c41, .int .i64 c42, .int .i64 c43, .int .i64 c44, .str c45]] [] = some ⟨.bool true, [], []⟩ := by
  refine call_run rfl fn9 rfl ?_
  simp [F9, rcall, eqPg, eqVer, eqPgState, eqEntry, eqChunk, eqOp, eqReq]
  repeat' ((first | apply RunG_ncase | apply RunB_ncase | apply RunG_case | apply RunB_case | apply RunP_case) <;> intro h <;> simp [h, rcall, eqPg, eqVer, eqPgState, eqEntry, eqChunk, eqOp, eqReq])
theorem markPgState (k : Nat) (c11 : Int) (c12 : Int) (c13 : Int) (c14 : Int) (c15 : Int) (c16 : Int) (c20 : Int) (c21 : Int) (x : Int) : call code (k + 2) 27 [.agg [.int .i64 c11, .int .i64 c12, .int .i64 c13, .int .i64 c14, .int .i64 c15, .int .i64 c16, .rd true [], .rd true [], .rd true [], .int .i64 c20, .int .i64 c21, .rd true []], .int .i64 x] [] = some ⟨.int .i64 x, [], []⟩ := by
  refine call_run rfl fn27 rfl ?_
  simp [F27, rcall, markHeadS, markLastS, markEntryS, markChunkS]
  repeat' ((first | apply RunG_ncase | apply RunB_ncase | apply RunG_case | apply RunB_case | apply RunP_case) <;> intro h <;> simp [h, rcall, markHeadS, markLastS, markEntryS, markChunkS])
theorem heldPgState (k : Nat) (c11 : Int) (c12 : Int) (c13 : Int) (c14 : Int) (c15 : Int) (c16 : Int) (c20 : Int) (c21 : Int) (x : Int) (hx : decide (x < 0) = false) : call code (k + 2) 28 [.agg [.int .i64 c11, .int .i64 c12, .int .i64 c13, .int .i64 c14, .int .i64 c15, .int .i64 c16, .rd true [], .rd true [], .rd true [], .int .i64 c20, .int .i64 c21, .rd true []], .int .i64 x] [] = some ⟨.int .i64 x, [], []⟩ := by
  refine call_run rfl fn28 rfl ?_
  simp [F28, rcall, heldHeadS, heldLastS, heldEntryS, heldChunkS, hx]
  repeat' ((first | apply RunG_ncase | apply RunB_ncase | apply RunG_case | apply RunB_case | apply RunP_case) <;> intro h <;> simp [h, rcall, heldHeadS, heldLastS, heldEntryS, heldChunkS, hx])
set_option maxRecDepth 100000 in
theorem markMsg (k : Nat) (c0 : Int) (c1 : Int) (c2 : Int) (c3 : Int) (c4 : Int) (c5 : Int) (c6 : ByteArray) (c7 : Int) (c8 : Int) (c9 : Int) (c10 : Int) (c11 : Int) (c12 : Int) (c13 : Int) (c14 : Int) (c15 : Int) (c16 : Int) (c20 : Int) (c21 : Int) (c23 : Int) (c24 : Int) (c25 : Int) (c26 : Int) (c27 : ByteArray) (c28 : Bool) (c29 : Int) (c30 : Int) (c31 : Int) (c32 : Int) (c33 : ByteArray) (c34 : Int) (c35 : Int) (c36 : Int) (c37 : Int) (c38 : ByteArray) (c39 : Int) (c40 : Int) (c41 : ByteArray) (c42 : Int) (c43 : Int) (c44 : Int) (c45 : ByteArray) (x : Int) : call code (k + 3) 10 [.agg [.int .i64 c0, .int .i64 c1, .int .i64 c2, .int .i64 c3, .int .i64 c4, .int .i64 c5, .str c6, .int .i64 c7, .int .i64 c8, .int .i64 c9, .int .i64 c10, .int .i64 c11, .int .i64 c12, .int .i64 c13, .int .i64 c14, .int .i64 c15, .int .i64 c16, .rd true [], .rd true [], .rd true [], .int .i64 c20, .int .i64 c21, .rd true [], .int .i64 c23, .int .i64 c24, .int .i64 c25, .int .i64 c26, .str c27, .bool c28, .int .i64 c29, .int .i64 c30, .int .i64 c31, .int .i64 c32, .str c33, .int .i64 c34, .int .i64 c35, .int .i64 c36, .int .i64 c37, .str c38, .int .i64 c39, .int .i64 c40, .str c41, .int .i64 c42, .int .i64 c43, .int .i64 c44, .str c45], .int .i64 x] [] = some ⟨.int .i64 x, [], []⟩ := by
  refine call_run rfl fn10 rfl ?_
  simp [F10, rcall, markPgState]
  repeat' ((first | apply RunG_ncase | apply RunB_ncase | apply RunG_case | apply RunB_case | apply RunP_case) <;> intro h <;> simp [h, rcall, markPgState])
set_option maxRecDepth 100000 in
theorem heldMsg (k : Nat) (c0 : Int) (c1 : Int) (c2 : Int) (c3 : Int) (c4 : Int) (c5 : Int) (c6 : ByteArray) (c7 : Int) (c8 : Int) (c9 : Int) (c10 : Int) (c11 : Int) (c12 : Int) (c13 : Int) (c14 : Int) (c15 : Int) (c16 : Int) (c20 : Int) (c21 : Int) (c23 : Int) (c24 : Int) (c25 : Int) (c26 : Int) (c27 : ByteArray) (c28 : Bool) (c29 : Int) (c30 : Int) (c31 : Int) (c32 : Int) (c33 : ByteArray) (c34 : Int) (c35 : Int) (c36 : Int) (c37 : Int) (c38 : ByteArray) (c39 : Int) (c40 : Int) (c41 : ByteArray) (c42 : Int) (c43 : Int) (c44 : Int) (c45 : ByteArray) (x : Int) (hx : decide (x < 0) = false) : call code (k + 3) 11 [.agg [.int .i64 c0, .int .i64 c1, .int .i64 c2, .int .i64 c3, .int .i64 c4, .int .i64 c5, .str c6, .int .i64 c7, .int .i64 c8, .int .i64 c9, .int .i64 c10, .int .i64 c11, .int .i64 c12, .int .i64 c13, .int .i64 c14, .int .i64 c15, .int .i64 c16, .rd true [], .rd true [], .rd true [], .int .i64 c20, .int .i64 c21, .rd true [], .int .i64 c23, .int .i64 c24, .int .i64 c25, .int .i64 c26, .str c27, .bool c28, .int .i64 c29, .int .i64 c30, .int .i64 c31, .int .i64 c32, .str c33, .int .i64 c34, .int .i64 c35, .int .i64 c36, .int .i64 c37, .str c38, .int .i64 c39, .int .i64 c40, .str c41, .int .i64 c42, .int .i64 c43, .int .i64 c44, .str c45], .int .i64 x] [] = some ⟨.int .i64 x, [], []⟩ := by
  refine call_run rfl fn11 rfl ?_
  simp [F11, rcall, heldPgState, hx]
  repeat' ((first | apply RunG_ncase | apply RunB_ncase | apply RunG_case | apply RunB_case | apply RunP_case) <;> intro h <;> simp [h, rcall, heldPgState, hx])
end Go.Ae.R7
