/- Small checks: numbers, versions, names, requests. -/
import Derived.Test.YtiabjkihebhfkaaGreatHCB
namespace Go.Ae.GA.B
set_option linter.unusedSimpArgs false
set_option linter.unusedVariables false
theorem between (k : Nat) (a b c : Int) : call code (k + 1) 142 [.int .i64 a, .int .i64 b, .int .i64 c] [] = some ⟨.bool (inB a b c), [], []⟩ := by
  refine call_run rfl fn142 rfl ?_
  simp [F142]
  repeat' ((first | apply RunG_ncase | apply RunB_ncase | apply RunG_case | apply RunB_case | apply RunP_case) <;> intro h <;> simp [h])
  all_goals (simp_all [inB] <;> omega)
theorem l00In (k : Nat) (a b c : Int) : call code (k + 1) 97 [.int .i64 a, .int .i64 b, .int .i64 c] [] = some ⟨.bool (inB a b c), [], []⟩ := by
  refine call_run rfl fn97 rfl ?_
  simp [F97]
  repeat' ((first | apply RunG_ncase | apply RunB_ncase | apply RunG_case | apply RunB_case | apply RunP_case) <;> intro h <;> simp [h])
  all_goals (simp_all [inB] <;> omega)
theorem verOk (k : Nat) (e s : Int) : call code (k + 2) 143 [.agg [.int .i64 e, .int .i64 s]] [] = some ⟨.bool (verB e s), [], []⟩ := by
  refine call_run rfl fn143 rfl ?_
  unfold verB
  have b1 := fun k => between k e 1 60
  have b2 := fun k => between k s 1 1000
  cases c1 : e == 0 <;> cases c2 : s == 0 <;> cases c3 : inB e 1 60 <;> cases c4 : inB s 1 1000 <;> rw [c3] at b1 <;> rw [c4] at b2 <;> simp [F143, rcall142, b1, b2, c1, c2]
theorem l17Zero (k : Nat) (e s : Int) : call code (k + 1) 172 [.agg [.int .i64 e, .int .i64 s]] [] = some ⟨.bool (e == 0 && s == 0), [], []⟩ := by
  refine call_run rfl fn172 rfl ?_
  cases c1 : e == 0 <;> cases c2 : s == 0 <;> simp [F172, c1, c2]
theorem l17Ver (k : Nat) (e s : Int) : call code (k + 2) 98 [.agg [.int .i64 e, .int .i64 s]] [] = some ⟨.bool (verB e s), [], []⟩ := by
  refine call_run rfl fn98 rfl ?_
  unfold verB
  have z := fun k => l17Zero k e s
  have b1 := fun k => l00In k e 1 60
  have b2 := fun k => l00In k s 1 1000
  cases c0 : (e == 0 && s == 0) <;> cases c3 : inB e 1 60 <;> cases c4 : inB s 1 1000 <;> rw [c0] at z <;> rw [c3] at b1 <;> rw [c4] at b2 <;> simp [F98, rcall172, rcall97, z, b1, b2]
/-- A version that is none is left out. -/
def fullB (e s : Int) : Bool := verB e s && !(e == 0 && s == 0)
theorem l17Full (k : Nat) (e s : Int) : call code (k + 3) 158 [.agg [.int .i64 e, .int .i64 s]] [] = some ⟨.bool (fullB e s), [], []⟩ := by
  refine call_run rfl fn158 rfl ?_
  unfold fullB
  have z := fun k => l17Zero k e s
  have v := fun k => l17Ver k e s
  cases c0 : (e == 0 && s == 0) <;> cases c3 : verB e s <;> rw [c0] at z <;> rw [c3] at v <;> simp [F158, rcall172, rcall98, z, v]
theorem l17Client (k : Nat) (n : Int) : call code (k + 2) 173 [.int .i64 n] [] = some ⟨.bool (cliB n), [], []⟩ := by
  refine call_run rfl fn173 rfl ?_
  simp [F173, rcall97, l00In, cliB]
theorem isClient (k : Nat) (n : Int) : call code (k + 2) 227 [.int .i64 n] [] = some ⟨.bool (cliB n), [], []⟩ := by
  refine call_run rfl fn227 rfl ?_
  simp [F227, rcall142, between, cliB]
theorem reqOk (k : Nat) (c n : Int) : call code (k + 3) 176 [.agg [.int .i64 c, .int .i64 n]] [] = some ⟨.bool (reqB c n), [], []⟩ := by
  refine call_run rfl fn176 rfl ?_
  unfold reqB
  have b1 := fun k => isClient k c
  have b2 := fun k => between k n 1 1000
  cases c1 : c == 0 <;> cases c2 : n == 0 <;> cases c3 : cliB c <;> cases c4 : inB n 1 1000 <;> rw [c3] at b1 <;> rw [c4] at b2 <;> simp [F176, rcall227, rcall142, b1, b2, c1, c2]
theorem l17Req (k : Nat) (c n : Int) : call code (k + 3) 226 [.agg [.int .i64 c, .int .i64 n]] [] = some ⟨.bool (reqB c n), [], []⟩ := by
  refine call_run rfl fn226 rfl ?_
  unfold reqB
  have b1 := fun k => l17Client k c
  have b2 := fun k => l00In k n 1 1000
  cases c1 : c == 0 <;> cases c2 : n == 0 <;> cases c3 : cliB c <;> cases c4 : inB n 1 1000 <;> rw [c3] at b1 <;> rw [c4] at b2 <;> simp [F226, rcall173, rcall97, b1, b2, c1, c2]
theorem l17Sum (k : Nat) (n : Int) : call code (k + 2) 159 [.int .i64 n] [] = some ⟨.bool (sumB n), [], []⟩ := by
  refine call_run rfl fn159 rfl ?_
  simp [F159, rcall97, l00In, sumB]
theorem sizeOk (k : Nat) (a b : Int) : call code (k + 2) 177 [.int .i64 a, .int .i64 b] [] = some ⟨.bool (sizeB a b), [], []⟩ := by
  refine call_run rfl fn177 rfl ?_
  unfold sizeB sumB
  have b1 := fun k => between k a 0 64
  have b2 := fun k => between k b 0 4294967295
  cases c3 : inB a 0 64 <;> cases c4 : inB b 0 4294967295 <;> rw [c3] at b1 <;> rw [c4] at b2 <;> simp [F177, rcall142, b1, b2]
def pgB (p n : Int) : Bool := inB p 1 4 && inB n 0 15
theorem pgOk (k : Nat) (p n : Int) : call code (k + 2) 141 [.agg [.int .i64 p, .int .i64 n]] [] = some ⟨.bool (pgB p n), [], []⟩ := by
  refine call_run rfl fn141 rfl ?_
  unfold pgB
  have b1 := fun k => between k p 1 4
  have b2 := fun k => between k n 0 15
  cases c3 : inB p 1 4 <;> cases c4 : inB n 0 15 <;> rw [c3] at b1 <;> rw [c4] at b2 <;> simp [F141, rcall142, b1, b2]
theorem l17Pg (k : Nat) (p n : Int) : call code (k + 2) 96 [.agg [.int .i64 p, .int .i64 n]] [] = some ⟨.bool (pgB p n), [], []⟩ := by
  refine call_run rfl fn96 rfl ?_
  unfold pgB
  have b1 := fun k => l00In k p 1 4
  have b2 := fun k => l00In k n 0 15
  cases c3 : inB p 1 4 <;> cases c4 : inB n 0 15 <;> rw [c3] at b1 <;> rw [c4] at b2 <;> simp [F96, rcall97, b1, b2]
theorem implNameOk (k : Nat) (s : ByteArray) (hs : s.size ≤ 1048576) : call code (k + 2) 161 [.str s] [] = some ⟨.bool (nameB s), [], []⟩ := by
  refine call_run rfl fn161 rfl ?_
  simp [F161]
  refine RunC_loop (fun i : Nat => ⟨[.str s, .undef, .undef, .undef, .undef, .undef, .int .i64 s.size, .int .i64 i] ++ List.replicate 23 .undef, [], []⟩)
    (fun i => i ≤ s.size ∧ ∀ (j : Nat) (c : UInt8), j < i → s.data.toList[j]? = some c → goodC c = true) (fun i => s.size - i) 0 ⟨by omega, by omega⟩ (by simp; omega) (by simp) fun i hi _ => ?_
  by_cases hlt : i < s.size
  · have hc' := bget_pos hlt
    simp [hlt]
    repeat' ((first | apply RunG_ncase | apply RunB_ncase | apply RunG_case | apply RunB_case | apply RunP_case) <;> intro h <;> simp [h])
    all_goals first
      | (have hb : goodC s[i] = false := by simp_all [goodC] <;> omega
         simp [nameB, inB, all_false hc' hb]; done)
      | (have hb : goodC s[i] = true := by simp_all [goodC] <;> omega
         refine ⟨i + 1, ⟨by omega, fun j c hj hjc => ?_⟩, by omega, ?_⟩
         · rcases Nat.lt_succ_iff_lt_or_eq.1 hj with h | rfl
           · exact hi.2 j c h (by simpa using hjc)
           · rw [show s.data.toList[j]? = s.data[j]? from by simp, hjc] at hc'
             cases hc'; exact hb
         · rw [wrap64 (by omega)]; omega)
      | (exfalso; simp_all; done)
  · have : i = s.size := by omega
    subst this
    have hall : s.data.toList.all goodC = true := all_iff.2 fun j c hc => hi.2 j c (by simpa using (List.getElem?_eq_some_iff.1 hc).1) hc
    simp [rcall142, between, nameB, hall, inB]
theorem l09Name (k : Nat) (s : ByteArray) (hs : s.size ≤ 1048576) : call code (k + 1) 217 [.str s] [] = some ⟨.bool (nameB s), [], []⟩ := by
  refine call_run rfl fn217 rfl ?_
  simp [F217]
  by_cases h1 : s.size < 1
  · simp [h1, nameB, inB]
    repeat' ((first | apply RunG_ncase | apply RunB_ncase | apply RunG_case | apply RunB_case | apply RunP_case) <;> intro h <;> simp [h])
    all_goals (first | omega | (simp_all; done) | (simp_all; omega))
  by_cases h2 : 8 < s.size
  · simp [h1, h2, nameB, inB]
    repeat' ((first | apply RunG_ncase | apply RunB_ncase | apply RunG_case | apply RunB_case | apply RunP_case) <;> intro h <;> simp [h])
    all_goals (first | omega | (simp_all; done) | (simp_all; omega))
  have e1 : decide ((s.size : Int) < 1) = false := by simp; omega
  have e2 : decide (8 < (s.size : Int)) = false := by simp; omega
  simp [e1, e2]
  refine RunC_loop (fun i : Nat => ⟨[.str s, .undef, .undef, .int .i64 i] ++ List.replicate 32 .undef, [], []⟩)
    (fun i => i ≤ s.size ∧ ∀ (j : Nat) (c : UInt8), j < i → s.data.toList[j]? = some c → goodC c = true) (fun i => s.size - i) 0 ⟨by omega, by omega⟩ (by simp; omega) (by simp) fun i hi _ => ?_
  by_cases hlt : i < s.size
  · have hc' := bget_pos hlt
    simp [hlt]
    repeat' ((first | apply RunG_ncase | apply RunB_ncase | apply RunG_case | apply RunB_case | apply RunP_case) <;> intro h <;> simp [h])
    all_goals first
      | (have hb : goodC s[i] = false := by simp_all [goodC] <;> omega
         simp [nameB, inB, all_false hc' hb]; done)
      | (have hb : goodC s[i] = true := by simp_all [goodC] <;> omega
         refine ⟨i + 1, ⟨by omega, fun j c hj hjc => ?_⟩, by omega, ?_⟩
         · rcases Nat.lt_succ_iff_lt_or_eq.1 hj with h | rfl
           · exact hi.2 j c h (by simpa using hjc)
           · rw [show s.data.toList[j]? = s.data[j]? from by simp, hjc] at hc'
             cases hc'; exact hb
         · rw [wrap64 (by omega)]; omega)
      | (exfalso; simp_all; done)
  · have : i = s.size := by omega
    subst this
    have hall : s.data.toList.all goodC = true := all_iff.2 fun j c hc => hi.2 j c (by simpa using (List.getElem?_eq_some_iff.1 hc).1) hc
    simp [nameB, inB, hall]
    omega
theorem specNameOk (k : Nat) (s : ByteArray) (hs : s.size ≤ 1048576) : call code (k + 2) 157 [.str s] [] = some ⟨.bool (nameB s), [], []⟩ := by
  refine call_run rfl fn157 rfl ?_
  simp [F157, rcall217, l09Name k s hs]
  repeat' ((first | apply RunG_ncase | apply RunB_ncase | apply RunG_case | apply RunB_case | apply RunP_case) <;> intro h <;> simp [h, rcall217, l09Name k s hs])
end Go.Ae.GA.B
