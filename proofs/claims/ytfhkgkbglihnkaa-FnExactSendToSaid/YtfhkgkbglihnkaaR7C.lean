import Derived.Test.YtfhkgkbglihnkaaR7Code
namespace Go.Ae.R7
set_option linter.unusedSimpArgs false
set_option linter.unusedVariables false
abbrev i64 (n : Int) : AV := .int .i64 n
def inB (a b c : Int) : Bool := decide (b ≤ a) && decide (a ≤ c)
theorem l00In (k : Nat) (a b c : Int) : call code (k + 1) 30 [.int .i64 a, .int .i64 b, .int .i64 c] [] = some ⟨.bool (inB a b c), [], []⟩ := by
  refine call_run rfl fn30 rfl ?_
  simp [F30]
  repeat' ((first | apply RunG_ncase | apply RunB_ncase | apply RunG_case | apply RunB_case | apply RunP_case) <;> intro h <;> simp [h])
  all_goals (simp_all [inB] <;> omega)
theorem between (k : Nat) (a b c : Int) : call code (k + 1) 36 [.int .i64 a, .int .i64 b, .int .i64 c] [] = some ⟨.bool (inB a b c), [], []⟩ := by
  refine call_run rfl fn36 rfl ?_
  simp [F36]
  repeat' ((first | apply RunG_ncase | apply RunB_ncase | apply RunG_case | apply RunB_case | apply RunP_case) <;> intro h <;> simp [h])
  all_goals (simp_all [inB] <;> omega)
def szS (n : Int) (s : ByteArray) : Int := if n - s.size < 0 then -1 else n - s.size
theorem szOp (k : Nat) (a b : Int) (s : ByteArray) (n : Int) (h : -9223372036854775808 ≤ n - s.size ∧ n - s.size ≤ 9223372036854775807) : call code (k + 1) 12 [.agg [.int .i64 a, .int .i64 b, .str s], .int .i64 n] [] = some ⟨.int .i64 (szS n s), [], []⟩ := by
  refine call_run rfl fn12 rfl ?_
  simp [F12, wrap64 h]
  repeat' ((first | apply RunG_ncase | apply RunB_ncase | apply RunG_case | apply RunB_case | apply RunP_case) <;> intro h <;> simp [h])
  all_goals simp_all [szS]
  all_goals omega
theorem toPg (k : Nat) (a b : Int) : call code (k + 1) 15 [.agg [.int .i64 a, .int .i64 b]] [] = some ⟨.agg [.int .i64 a, .int .i64 b], [], []⟩ := by
  refine call_run rfl fn15 rfl ?_
  simp [F15]
theorem toOp (k : Nat) (a b : Int) (s : ByteArray) : call code (k + 1) 16 [.agg [.int .i64 a, .int .i64 b, .str s]] [] = some ⟨.agg [.int .i64 a, .int .i64 b, .str s], [], []⟩ := by
  refine call_run rfl fn16 rfl ?_
  simp [F16]
theorem l17Client (k : Nat) (a : Int) : call code (k + 2) 29 [.int .i64 a] [] = some ⟨.bool (inB a 100 105), [], []⟩ := by
  refine call_run rfl fn29 rfl ?_
  simp [F29, rcall, l00In]
theorem isClient (k : Nat) (a : Int) : call code (k + 2) 35 [.int .i64 a] [] = some ⟨.bool (inB a 100 105), [], []⟩ := by
  refine call_run rfl fn35 rfl ?_
  simp [F35, rcall, between]
theorem l17Pg (k : Nat) (a b : Int) : call code (k + 2) 31 [.agg [.int .i64 a, .int .i64 b]] [] = some ⟨.bool (inB a 1 4 && inB b 0 15), [], []⟩ := by
  refine call_run rfl fn31 rfl ?_
  simp [F31, rcall, l00In]
  repeat' ((first | apply RunG_ncase | apply RunB_ncase | apply RunG_case | apply RunB_case | apply RunP_case) <;> intro h <;> simp [h, rcall, l00In])
theorem pgOk (k : Nat) (a b : Int) : call code (k + 2) 37 [.agg [.int .i64 a, .int .i64 b]] [] = some ⟨.bool (inB a 1 4 && inB b 0 15), [], []⟩ := by
  refine call_run rfl fn37 rfl ?_
  simp [F37, rcall, between]
  repeat' ((first | apply RunG_ncase | apply RunB_ncase | apply RunG_case | apply RunB_case | apply RunP_case) <;> intro h <;> simp [h, rcall, between])
theorem l16Plain (k : Nat) : call code (k + 1) 34 [] [] = some ⟨.agg [.int .i64 1, .int .i64 0], [], []⟩ := by
  refine call_run rfl fn34 rfl ?_
  simp [F34]
theorem plainCode (k : Nat) : call code (k + 1) 40 [] [] = some ⟨.agg [.int .i64 1, .int .i64 0], [], []⟩ := by
  refine call_run rfl fn40 rfl ?_
  simp [F40]
theorem l04Code (k : Nat) (a b : Int) : call code (k + 2) 59 [.agg [.int .i64 a, .int .i64 b]] [] = some ⟨.bool (inB a 1 4 && inB b 0 3), [], []⟩ := by
  refine call_run rfl fn59 rfl ?_
  simp [F59, rcall, l00In]
  repeat' ((first | apply RunG_ncase | apply RunB_ncase | apply RunG_case | apply RunB_case | apply RunP_case) <;> intro h <;> simp [h, rcall, l00In])
theorem implCodeOk (k : Nat) (a b : Int) : call code (k + 2) 55 [.agg [.int .i64 a, .int .i64 b]] [] = some ⟨.bool (inB a 1 4 && inB b 0 3), [], []⟩ := by
  refine call_run rfl fn55 rfl ?_
  simp [F55, rcall, between]
  repeat' ((first | apply RunG_ncase | apply RunB_ncase | apply RunG_case | apply RunB_case | apply RunP_case) <;> intro h <;> simp [h, rcall, between])
theorem specCodeOk (k : Nat) (a b : Int) : call code (k + 3) 54 [.agg [.int .i64 a, .int .i64 b]] [] = some ⟨.bool (inB a 1 4 && inB b 0 3), [], []⟩ := by
  refine call_run rfl fn54 rfl ?_
  simp [F54, rcall, l04Code]
  repeat' ((first | apply RunG_ncase | apply RunB_ncase | apply RunG_case | apply RunB_case | apply RunP_case) <;> intro h <;> simp [h, rcall, l04Code])
def codeOkB (a b : Int) : Bool := inB a 1 4 && inB b 0 3
def opOkB (a b n t : Int) (s : ByteArray) : Bool := codeOkB a b && (if n == 1 then t == 0 && s.toList.isEmpty else if n == 6 then t == 0 && s.toList.isEmpty else if n == 2 then t == 0 && decide ((s.size : Int) ≤ 64) else if n == 3 then a == 1 && inB t 0 64 && decide ((s.size : Int) ≤ 64) else if n == 4 then a == 1 && t == 0 && decide ((s.size : Int) ≤ 64) else if n == 5 then a == 1 && inB t 0 64 && s.toList.isEmpty else false)
theorem specOpOk (k : Nat) (a b n t : Int) (s : ByteArray) : call code (k + 4) 33 [.agg [.int .i64 a, .int .i64 b], .agg [.int .i64 n, .int .i64 t, .str s]] [] = some ⟨.bool (opOkB a b n t s), [], []⟩ := by
  refine call_run rfl fn33 rfl ?_
  simp [F33, rcall, specCodeOk, l00In]
  repeat' ((first | apply RunG_ncase | apply RunB_ncase | apply RunG_case | apply RunB_case | apply RunP_case) <;> intro h <;> simp [h, rcall, specCodeOk, l00In])
  all_goals (cases e1 : inB a 1 4 <;> cases e2 : inB b 0 3 <;> simp_all [opOkB, codeOkB])
theorem implOpOk (k : Nat) (a b n t : Int) (s : ByteArray) : call code (k + 4) 39 [.agg [.int .i64 a, .int .i64 b], .agg [.int .i64 n, .int .i64 t, .str s]] [] = some ⟨.bool (opOkB a b n t s), [], []⟩ := by
  refine call_run rfl fn39 rfl ?_
  simp [F39, rcall, implCodeOk, between]
  repeat' ((first | apply RunG_ncase | apply RunB_ncase | apply RunG_case | apply RunB_case | apply RunP_case) <;> intro h <;> simp [h, rcall, implCodeOk, between])
  all_goals (cases e1 : inB a 1 4 <;> cases e2 : inB b 0 3 <;> simp_all [opOkB, codeOkB])
theorem toClient (k : Nat) (id no : Int) (busy : Bool) (pool pno : Int) (nm : ByteArray) (n t : Int) (s : ByteArray) (tr : Int) : call code (k + 2) 6 [.agg [.int .i64 id, .int .i64 no, .bool busy, .int .i64 pool, .int .i64 pno, .str nm, .int .i64 n, .int .i64 t, .str s, .int .i64 tr]] [] = some ⟨.agg [.int .i64 id, .int .i64 no, .bool busy, .int .i64 pool, .int .i64 pno, .str nm, .int .i64 n, .int .i64 t, .str s, .int .i64 tr], [], []⟩ := by
  refine call_run rfl fn6 rfl ?_
  simp [F6, rcall, toPg, toOp]
  repeat' ((first | apply RunG_ncase | apply RunB_ncase | apply RunG_case | apply RunB_case | apply RunP_case) <;> intro h <;> simp [h, rcall, toPg, toOp])
def goodC (c : UInt8) : Bool := (decide (97 ≤ c.toNat) && decide (c.toNat ≤ 122)) || (decide (48 ≤ c.toNat) && decide (c.toNat ≤ 57))
def nameB (s : ByteArray) : Bool := decide (1 ≤ (s.size : Int)) && decide ((s.size : Int) ≤ 8) && s.data.toList.all goodC
theorem implNameOk (k : Nat) (s : ByteArray) (hs : s.size ≤ 1048576) : call code (k + 2) 38 [.str s] [] = some ⟨.bool (nameB s), [], []⟩ := by
  refine call_run rfl fn38 rfl ?_
  simp [F38]
  refine RunC_loop (fun i : Nat => ⟨[.str s, .undef, .undef, .undef, .undef, .undef, .int .i64 s.size, .int .i64 i] ++ List.replicate 23 .undef, [], []⟩)
    (fun i => i ≤ s.size ∧ ∀ (j : Nat) (c : UInt8), j < i → s.data.toList[j]? = some c → goodC c = true) (fun i => s.size - i) 0 ⟨by omega, by omega⟩ (by simp; omega) (by simp) fun i hi _ => ?_
  by_cases hlt : i < s.size
  · have hc' := bget_pos hlt
    simp [hlt]
    repeat' ((first | apply RunG_ncase | apply RunB_ncase | apply RunG_case | apply RunB_case | apply RunP_case) <;> intro h <;> simp [h])
    all_goals first
      | (have hb : goodC s[i] = false := by simp_all [goodC] <;> omega
         simp [nameB, all_false hc' hb]; done)
      | (have hb : goodC s[i] = true := by simp_all [goodC] <;> omega
         refine ⟨i + 1, ⟨by omega, fun j c hj hjc => ?_⟩, by omega, ?_⟩
         · rcases Nat.lt_succ_iff_lt_or_eq.1 hj with h | rfl
           · exact hi.2 j c h (by simpa using hjc)
           · rw [show s.data.toList[j]? = s.data[j]? from by simp, hjc] at hc'
             cases hc'; exact hb
         · rw [wrap64 (by omega)]; omega)
      | (exfalso; simp_all; done)
  · have : i = s.size := by omega
    subst this
    have hall : s.data.toList.all goodC = true := all_iff.2 fun j c hc => hi.2 j c (by simpa using (List.getElem?_eq_some_iff.1 hc).1) hc
    simp [rcall, between, nameB, hall, inB]
theorem l09Name (k : Nat) (s : ByteArray) (hs : s.size ≤ 1048576) : call code (k + 1) 53 [.str s] [] = some ⟨.bool (nameB s), [], []⟩ := by
  refine call_run rfl fn53 rfl ?_
  simp [F53]
  by_cases h1 : s.size < 1
  · simp [h1, nameB]
    repeat' ((first | apply RunG_ncase | apply RunB_ncase | apply RunG_case | apply RunB_case | apply RunP_case) <;> intro h <;> simp [h])
    all_goals (first | omega | (simp_all; done) | (simp_all; omega))
  by_cases h2 : 8 < s.size
  · simp [h1, h2, nameB]
    repeat' ((first | apply RunG_ncase | apply RunB_ncase | apply RunG_case | apply RunB_case | apply RunP_case) <;> intro h <;> simp [h])
    all_goals (first | omega | (simp_all; done) | (simp_all; omega))
  have e1 : decide ((s.size : Int) < 1) = false := by simp; omega
  have e2 : decide (8 < (s.size : Int)) = false := by simp; omega
  simp [e1, e2]
  refine RunC_loop (fun i : Nat => ⟨[.str s, .undef, .undef, .int .i64 i] ++ List.replicate 32 .undef, [], []⟩)
    (fun i => i ≤ s.size ∧ ∀ (j : Nat) (c : UInt8), j < i → s.data.toList[j]? = some c → goodC c = true) (fun i => s.size - i) 0 ⟨by omega, by omega⟩ (by simp; omega) (by simp) fun i hi _ => ?_
  by_cases hlt : i < s.size
  · have hc' := bget_pos hlt
    simp [hlt]
    repeat' ((first | apply RunG_ncase | apply RunB_ncase | apply RunG_case | apply RunB_case | apply RunP_case) <;> intro h <;> simp [h])
    all_goals first
      | (have hb : goodC s[i] = false := by simp_all [goodC] <;> omega
         simp [nameB, all_false hc' hb]; done)
      | (have hb : goodC s[i] = true := by simp_all [goodC] <;> omega
         refine ⟨i + 1, ⟨by omega, fun j c hj hjc => ?_⟩, by omega, ?_⟩
         · rcases Nat.lt_succ_iff_lt_or_eq.1 hj with h | rfl
           · exact hi.2 j c h (by simpa using hjc)
           · rw [show s.data.toList[j]? = s.data[j]? from by simp, hjc] at hc'
             cases hc'; exact hb
         · rw [wrap64 (by omega)]; omega)
      | (exfalso; simp_all; done)
  · have : i = s.size := by omega
    subst this
    have hall : s.data.toList.all goodC = true := all_iff.2 fun j c hc => hi.2 j c (by simpa using (List.getElem?_eq_some_iff.1 hc).1) hc
    simp [nameB, hall]
    omega
theorem specNameOk (k : Nat) (s : ByteArray) (hs : s.size ≤ 1048576) : call code (k + 2) 32 [.str s] [] = some ⟨.bool (nameB s), [], []⟩ := by
  refine call_run rfl fn32 rfl ?_
  simp [F32, rcall, l09Name k s hs]
  repeat' ((first | apply RunG_ncase | apply RunB_ncase | apply RunG_case | apply RunB_case | apply RunP_case) <;> intro h <;> simp [h, rcall, l09Name k s hs])
def szClientI (l : Int) (nm s : ByteArray) : Int := if szS l nm < 0 then -1 else szS (szS l nm) s
theorem szClient (k : Nat) (id no : Int) (busy : Bool) (pool pno : Int) (nm : ByteArray) (n t : Int) (s : ByteArray) (tr : Int) (l : Int) (hl : 0 ≤ l ∧ l ≤ 1048576) (h1 : nm.size ≤ 140737488351232) (h2 : s.size ≤ 140737488351232) : call code (k + 2) 4 [.agg [.int .i64 id, .int .i64 no, .bool busy, .int .i64 pool, .int .i64 pno, .str nm, .int .i64 n, .int .i64 t, .str s, .int .i64 tr], .int .i64 l] [] = some ⟨.int .i64 (szClientI l nm s), [], []⟩ := by
  refine call_run rfl fn4 rfl ?_
  simp [F4, rcall, szOp _ _ _ _ _ ⟨(show -9223372036854775808 ≤ l - nm.size - s.size by omega), (show l - nm.size - s.size ≤ 9223372036854775807 by omega)⟩, wrap64 (show -9223372036854775808 ≤ l - nm.size ∧ l - nm.size ≤ 9223372036854775807 from ⟨by omega, by omega⟩)]
  repeat' ((first | apply RunG_ncase | apply RunB_ncase | apply RunG_case | apply RunB_case | apply RunP_case) <;> intro h <;> simp [h, rcall, szOp _ _ _ _ _ ⟨(show -9223372036854775808 ≤ l - nm.size - s.size by omega), (show l - nm.size - s.size ≤ 9223372036854775807 by omega)⟩, wrap64 (show -9223372036854775808 ≤ l - nm.size ∧ l - nm.size ≤ 9223372036854775807 from ⟨by omega, by omega⟩)])
  · simp only [decide_eq_true_eq] at h; simp [szClientI, szS, h]
  · simp only [decide_eq_true_eq, decide_eq_false_iff_not] at *; simp_all [szClientI, szS]; omega
  · simp only [decide_eq_true_eq, decide_eq_false_iff_not] at *; simp_all [szClientI, szS]; omega
def callerB (id no : Int) (busy : Bool) (pool pno : Int) (nm : ByteArray) (n t : Int) (s : ByteArray) (tr : Int) : Bool :=
  inB id 100 105 && inB no 0 1000 && inB tr 0 1000 && (if busy then decide (1 ≤ no) && (inB pool 1 4 && inB pno 0 15) && nameB nm && opOkB 1 0 n t s else pool == 0 && pno == 0 && nm.toList.isEmpty && n == 0 && t == 0 && s.toList.isEmpty && tr == 0)
theorem specCallerOk (k : Nat) (id no : Int) (busy : Bool) (pool pno : Int) (nm : ByteArray) (n t : Int) (s : ByteArray) (tr : Int) (h1 : nm.size ≤ 1048576) (h2 : s.size ≤ 1048576) : call code (k + 7) 13 [.agg [.int .i64 id, .int .i64 no, .bool busy, .int .i64 pool, .int .i64 pno, .str nm, .int .i64 n, .int .i64 t, .str s, .int .i64 tr]] [] = some ⟨.bool (callerB id no busy pool pno nm n t s tr), [], []⟩ := by
  refine call_run rfl fn13 rfl ?_
  simp [F13, rcall, l17Client, l00In, l17Pg, specNameOk _ _ h1, specOpOk, l16Plain]
  repeat' ((first | apply RunG_ncase | apply RunB_ncase | apply RunG_case | apply RunB_case | apply RunP_case) <;> intro h <;> simp [h, rcall, l17Client, l00In, l17Pg, specNameOk _ _ h1, specOpOk, l16Plain])
  all_goals (simp_all [callerB])
  all_goals (first | (intros; omega) | simp [Bool.and_assoc])
theorem implCallerOk (k : Nat) (id no : Int) (busy : Bool) (pool pno : Int) (nm : ByteArray) (n t : Int) (s : ByteArray) (tr : Int) (h1 : nm.size ≤ 1048576) (h2 : s.size ≤ 1048576) : call code (k + 7) 17 [.agg [.int .i64 id, .int .i64 no, .bool busy, .int .i64 pool, .int .i64 pno, .str nm, .int .i64 n, .int .i64 t, .str s, .int .i64 tr]] [] = some ⟨.bool (callerB id no busy pool pno nm n t s tr), [], []⟩ := by
  refine call_run rfl fn17 rfl ?_
  simp [F17, rcall, isClient, between, pgOk, implNameOk _ _ h1, implOpOk, plainCode]
  repeat' ((first | apply RunG_ncase | apply RunB_ncase | apply RunG_case | apply RunB_case | apply RunP_case) <;> intro h <;> simp [h, rcall, isClient, between, pgOk, implNameOk _ _ h1, implOpOk, plainCode])
  all_goals (simp_all [callerB])
  all_goals (first | (intros; omega) | simp [Bool.and_assoc])
end Go.Ae.R7
