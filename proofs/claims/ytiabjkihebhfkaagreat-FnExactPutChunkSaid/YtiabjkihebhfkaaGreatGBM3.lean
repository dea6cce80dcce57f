/- Small checks: numbers, versions, names, requests. -/
import Derived.Test.YtiabjkihebhfkaaGreatGBM1
namespace Go.Ae.GA.B
set_option linter.unusedSimpArgs false
set_option linter.unusedVariables false
theorem between (k : Nat) (a b c : Int) : call code (k + 1) 142 [.int .i64 a, .int .i64 b, .int .i64 c] [] = some ⟨.bool (inB a b c), [], []⟩ := by
  refine call_run rfl fn142 rfl ?_
  simp [F142]
  repeat' ((first | apply RunG_ncase | apply RunB_ncase | apply RunG_case | apply RunB_case | apply RunP_case) <;> intro h <;> simp [h])
  all_goals (simp_all [inB] <;> omega)
theorem l00In (k : Nat) (a b c : Int) : call code (k + 1) 97 [.int .i64 a, .int .i64 b, .int .i64 c] [] = some ⟨.bool (inB a b c), [], []⟩ := by
  refine call_run rfl fn97 rfl ?_
  simp [F97]
  repeat' ((first | apply RunG_ncase | apply RunB_ncase | apply RunG_case | apply RunB_case | apply RunP_case) <;> intro h <;> simp [h])
  all_goals (simp_all [inB] <;> omega)
theorem verOk (k : Nat) (e s : Int) : call code (k + 2) 143 [.agg [.int .i64 e, .int .i64 s]] [] = some ⟨.bool (verB e s), [], []⟩ := by
  refine call_run rfl fn143 rfl ?_
  unfold verB
  have b1 := fun k => between k e 1 60
  have b2 := fun k => between k s 1 1000
  cases c1 : e == 0 <;> cases c2 : s == 0 <;> cases c3 : inB e 1 60 <;> cases c4 : inB s 1 1000 <;> rw [c3] at b1 <;> rw [c4] at b2 <;> simp [F143, rcall142, b1, b2, c1, c2]
theorem l17Zero (k : Nat) (e s : Int) : call code (k + 1) 172 [.agg [.int .i64 e, .int .i64 s]] [] = some ⟨.bool (e == 0 && s == 0), [], []⟩ := by
  refine call_run rfl fn172 rfl ?_
  cases c1 : e == 0 <;> cases c2 : s == 0 <;> simp [F172, c1, c2]
theorem l17Ver (k : Nat) (e s : Int) : call code (k + 2) 98 [.agg [.int .i64 e, .int .i64 s]] [] = some ⟨.bool (verB e s), [], []⟩ := by
  refine call_run rfl fn98 rfl ?_
  unfold verB
  have z := fun k => l17Zero k e s
  have b1 := fun k => l00In k e 1 60
  have b2 := fun k => l00In k s 1 1000
  cases c0 : (e == 0 && s == 0) <;> cases c3 : inB e 1 60 <;> cases c4 : inB s 1 1000 <;> rw [c0] at z <;> rw [c3] at b1 <;> rw [c4] at b2 <;> simp [F98, rcall172, rcall97, z, b1, b2]
/-- A version that is none is left out. -/
def fullB (e s : Int) : Bool := verB e s && !(e == 0 && s == 0)
theorem l17Full (k : Nat) (e s : Int) : call code (k + 3) 158 [.agg [.int .i64 e, .int .i64 s]] [] = some ⟨.bool (fullB e s), [], []⟩ := by
  refine call_run rfl fn158 rfl ?_
  unfold fullB
  have z := fun k => l17Zero k e s
  have v := fun k => l17Ver k e s
  cases c0 : (e == 0 && s == 0) <;> cases c3 : verB e s <;> rw [c0] at z <;> rw [c3] at v <;> simp [F158, rcall172, rcall98, z, v]
theorem l17Client (k : Nat) (n : Int) : call code (k + 2) 173 [.int .i64 n] [] = some ⟨.bool (cliB n), [], []⟩ := by
  refine call_run rfl fn173 rfl ?_
  simp [F173, rcall97, l00In, cliB]
theorem isClient (k : Nat) (n : Int) : call code (k + 2) 227 [.int .i64 n] [] = some ⟨.bool (cliB n), [], []⟩ := by
  refine call_run rfl fn227 rfl ?_
  simp [F227, rcall142, between, cliB]
theorem reqOk (k : Nat) (c n : Int) : call code (k + 3) 176 [.agg [.int .i64 c, .int .i64 n]] [] = some ⟨.bool (reqB c n), [], []⟩ := by
  refine call_run rfl fn176 rfl ?_
  unfold reqB
  have b1 := fun k => isClient k c
  have b2 := fun k => between k n 1 1000
  cases c1 : c == 0 <;> cases c2 : n == 0 <;> cases c3 : cliB c <;> cases c4 : inB n 1 1000 <;> rw [c3] at b1 <;> rw [c4] at b2 <;> simp [F176, rcall227, rcall142, b1, b2, c1, c2]
theorem l17Req (k : Nat) (c n : Int) : call code (k + 3) 226 [.agg [.int .i64 c, .int .i64 n]] [] = some ⟨.bool (reqB c n), [], []⟩ := by
  refine call_run rfl fn226 rfl ?_
  unfold reqB
  have b1 := fun k => l17Client k c
  have b2 := fun k => l00In k n 1 1000
  cases c1 : c == 0 <;> cases c2 : n == 0 <;> cases c3 : cliB c <;> cases c4 : inB n 1 1000 <;> rw [c3] at b1 <;> rw [c4] at b2 <;> simp [F226, rcall173, rcall97, b1, b2, c1, c2]
theorem l17Sum (k : Nat) (n : Int) : call code (k + 2) 159 [.int .i64 n] [] = some ⟨.bool (sumB n), [], []⟩ := by
  refine call_run rfl fn159 rfl ?_
  simp [F159, rcall97, l00In, sumB]
theorem sizeOk (k : Nat) (a b : Int) : call code (k + 2) 177 [.int .i64 a, .int .i64 b] [] = some ⟨.bool (sizeB a b), [], []⟩ := by
  refine call_run rfl fn177 rfl ?_
  unfold sizeB sumB
  have b1 := fun k => between k a 0 64
  have b2 := fun k => between k b 0 4294967295
  cases c3 : inB a 0 64 <;> cases c4 : inB b 0 4294967295 <;> rw [c3] at b1 <;> rw [c4] at b2 <;> simp [F177, rcall142, b1, b2]
def pgB (p n : Int) : Bool := inB p 1 4 && inB n 0 15
theorem pgOk (k : Nat) (p n : Int) : call code (k + 2) 141 [.agg [.int .i64 p, .int .i64 n]] [] = some ⟨.bool (pgB p n), [], []⟩ := by
  refine call_run rfl fn141 rfl ?_
  unfold pgB
  have b1 := fun k => between k p 1 4
  have b2 := fun k => between k n 0 15
  cases c3 : inB p 1 4 <;> cases c4 : inB n 0 15 <;> rw [c3] at b1 <;> rw [c4] at b2 <;> simp [F141, rcall142, b1, b2]
theorem l17Pg (k : Nat) (p n : Int) : call code (k + 2) 96 [.agg [.int .i64 p, .int .i64 n]] [] = some ⟨.bool (pgB p n), [], []⟩ := by
  refine call_run rfl fn96 rfl ?_
  unfold pgB
  have b1 := fun k => l00In k p 1 4
  have b2 := fun k => l00In k n 0 15
  cases c3 : inB p 1 4 <;> cases c4 : inB n 0 15 <;> rw [c3] at b1 <;> rw [c4] at b2 <;> simp [F96, rcall97, b1, b2]
theorem implNameOk (k : Nat) (s : ByteArray) (hs : s.size ≤ 1048576) : call code (k + 2) 161 [.str s] [] = some ⟨.bool (nameB s), [], []⟩ := by
  refine call_run rfl fn161 rfl ?_
  simp [F161]
  refine RunC_loop (fun i : Nat => ⟨[.str s, .undef, .undef, .undef, .undef, .undef, .int .i64 s.size, .int .i64 i] ++ List.replicate 23 .undef, [], []⟩)
    (fun i => i ≤ s.size ∧ ∀ (j : Nat) (c : UInt8), j < i → s.data.toList[j]? = some c → goodC c = true) (fun i => s.size - i) 0 ⟨by omega, by omega⟩ (by simp; omega) (by simp) fun i hi _ => ?_
  by_cases hlt : i < s.size
  · have hc' := bget_pos hlt
    simp [hlt]
    repeat' ((first | apply RunG_ncase | apply RunB_ncase | apply RunG_case | apply RunB_case | apply RunP_case) <;> intro h <;> simp [h])
    all_goals first
      | (have hb : goodC s[i] = false := by simp_all [goodC] <;> omega
         simp [nameB, inB, all_false hc' hb]; done)
      | (have hb : goodC s[i] = true := by simp_all [goodC] <;> omega
         refine ⟨i + 1, ⟨by omega, fun j c hj hjc => ?_⟩, by omega, ?_⟩
         · rcases Nat.lt_succ_iff_lt_or_eq.1 hj with h | rfl
           · exact hi.2 j c h (by simpa using hjc)
           · rw [show s.data.toList[j]? = s.data[j]? from by simp, hjc] at hc'
             cases hc'; exact hb
         · rw [wrap64 (by omega)]; omega)
      | (exfalso; simp_all; done)
  · have : i = s.size := by omega
    subst this
    have hall : s.data.toList.all goodC = true := all_iff.2 fun j c hc => hi.2 j c (by simpa using (List.getElem?_eq_some_iff.1 hc).1) hc
    simp [rcall142, between, nameB, hall, inB]
theorem l09Name (k : Nat) (s : ByteArray) (hs : s.size ≤ 1048576) : call code (k + 1) 217 [.str s] [] = some ⟨.bool (nameB s), [], []⟩ := by
  refine call_run rfl fn217 rfl ?_
  simp [F217]
  by_cases h1 : s.size < 1
  · simp [h1, nameB, inB]
    repeat' ((first | apply RunG_ncase | apply RunB_ncase | apply RunG_case | apply RunB_case | apply RunP_case) <;> intro h <;> simp [h])
    all_goals (first | omega | (simp_all; done) | (simp_all; omega))
  by_cases h2 : 8 < s.size
  · simp [h1, h2, nameB, inB]
    repeat' ((first | apply RunG_ncase | apply RunB_ncase | apply RunG_case | apply RunB_case | apply RunP_case) <;> intro h <;> simp [h])
    all_goals (first | omega | (simp_all; done) | (simp_all; omega))
  have e1 : decide ((s.size : Int) < 1) = false := by simp; omega
  have e2 : decide (8 < (s.size : Int)) = false := by simp; omega
  simp [e1, e2]
  refine RunC_loop (fun i : Nat => ⟨[.str s, .undef, .undef, .int .i64 i] ++ List.replicate 32 .undef, [], []⟩)
    (fun i => i ≤ s.size ∧ ∀ (j : Nat) (c : UInt8), j < i → s.data.toList[j]? = some c → goodC c = true) (fun i => s.size - i) 0 ⟨by omega, by omega⟩ (by simp; omega) (by simp) fun i hi _ => ?_
  by_cases hlt : i < s.size
  · have hc' := bget_pos hlt
    simp [hlt]
    repeat' ((first | apply RunG_ncase | apply RunB_ncase | apply RunG_case | apply RunB_case | apply RunP_case) <;> intro h <;> simp [h])
    all_goals first
      | (have hb : goodC s[i] = false := by simp_all [goodC] <;> omega
         simp [nameB, inB, all_false hc' hb]; done)
      | (have hb : goodC s[i] = true := by simp_all [goodC] <;> omega
         refine ⟨i + 1, ⟨by omega, fun j c hj hjc => ?_⟩, by omega, ?_⟩
         · rcases Nat.lt_succ_iff_lt_or_eq.1 hj with h | rfl
           · exact hi.2 j c h (by simpa using hjc)
           · rw [show s.data.toList[j]? = s.data[j]? from by simp, hjc] at hc'
             cases hc'; exact hb
         · rw [wrap64 (by omega)]; omega)
      | (exfalso; simp_all; done)
  · have : i = s.size := by omega
    subst this
    have hall : s.data.toList.all goodC = true := all_iff.2 fun j c hc => hi.2 j c (by simpa using (List.getElem?_eq_some_iff.1 hc).1) hc
    simp [nameB, inB, hall]
    omega
theorem specNameOk (k : Nat) (s : ByteArray) (hs : s.size ≤ 1048576) : call code (k + 2) 157 [.str s] [] = some ⟨.bool (nameB s), [], []⟩ := by
  refine call_run rfl fn157 rfl ?_
  simp [F157, rcall217, l09Name k s hs]
  repeat' ((first | apply RunG_ncase | apply RunB_ncase | apply RunG_case | apply RunB_case | apply RunP_case) <;> intro h <;> simp [h, rcall217, l09Name k s hs])
end Go.Ae.GA.B
namespace Go.Ae.GA.B
set_option linter.unusedSimpArgs false
set_option linter.unusedVariables false
theorem isNaN (k : Nat) (n : Int) : call code (k + 1) 232 [.int .i64 n] [] = some ⟨.bool false, [], []⟩ := by
  refine call_run rfl fn232 rfl ?_
  simp [F232]
/-- The order of numbers. -/
def cmpI (a b : Int) : Int := if a < b then -1 else if b < a then 1 else 0
theorem compare (k : Nat) (a b : Int) : call code (k + 2) 185 [.int .i64 a, .int .i64 b] [] = some ⟨.int .i64 (cmpI a b), [], []⟩ := by
  refine call_run rfl fn185 rfl ?_
  unfold cmpI
  by_cases h1 : a < b
  · simp [F185, rcall232, isNaN, h1]
  · by_cases h2 : b < a
    · simp [F185, rcall232, isNaN, h1, h2]
    · simp [F185, rcall232, isNaN, h1, h2]
/-- The first number that is not zero. -/
def orL : List Int → Int
  | [] => 0
  | a :: r => if a = 0 then orL r else a
theorem verLessS (k : Nat) (a b c d : Int) : call code (k + 1) 83 [.agg [.int .i64 a, .int .i64 b], .agg [.int .i64 c, .int .i64 d]] [] = some ⟨.bool (lessB a b c d), [], []⟩ := by
  refine call_run rfl fn83 rfl ?_
  unfold lessB
  cases c1 : decide (a < c) <;> cases c2 : a == c <;> cases c3 : decide (b < d) <;> simp [F83, c1, c2, c3]
theorem orL_at {L : List Int} {i : Nat} (h : i < L.length) (h0 : ∀ j, j < i → L[j]? = some 0) : orL L = if L[i] = 0 then orL (L.drop (i + 1)) else L[i] := by
  induction L generalizing i with
  | nil => simp at h
  | cons a r ih =>
    cases i with
    | zero => rfl
    | succ i =>
      have ha : a = 0 := by have := h0 0 (by omega); simpa using this
      rw [orL, if_pos ha, ih (i := i) (by simpa using h) (fun j hj => by have := h0 (j + 1) (by omega); simpa using this)]
      simp
theorem orL_zero {L : List Int} (h0 : ∀ j, j < L.length → L[j]? = some 0) : orL L = 0 := by
  induction L with
  | nil => rfl
  | cons a r ih =>
    have ha : a = 0 := by have := h0 0 (by simp); simpa using this
    rw [orL, if_pos ha, ih fun j hj => by have := h0 (j + 1) (by simpa using hj); simpa using this]
theorem orS (k : Nat) (L : List Int) (hn : L.length ≤ 1000) : call code (k + 1) 188 [.rd true (rws encI L)] [] = some ⟨.int .i64 (orL L), [], []⟩ := by
  refine call_run rfl fn188 rfl ?_
  simp [F188]
  refine RunC_loop (fun i : Nat => ⟨tm 18 [(3, .int .i64 0), (6, .rd true (rws encI L)), (7, .int .i64 L.length), (8, .int .i64 i)], [], []⟩)
    (fun i => i ≤ L.length ∧ ∀ j, j < i → L[j]? = some 0) (fun i => L.length - i) 0 ⟨by omega, by omega⟩ (by simp; omega) (by simp [tm]) fun i hi _ => ?_
  obtain ⟨hi, h0⟩ := hi
  by_cases hlt : i < L.length
  · have hs := idx_succ' hlt (by omega)
    have ho := orL_at hlt h0
    by_cases hz : L[i] = 0
    · simp [tm, hlt, hs, encI, hz]
      refine ⟨i + 1, ⟨by omega, fun j hj => ?_⟩, by omega, by simp⟩
      rcases Nat.lt_succ_iff_lt_or_eq.1 hj with h | rfl
      · exact h0 j h
      · rw [List.getElem?_eq_getElem hlt, hz]
    · rw [if_neg hz] at ho
      have hz' : (L[i] != 0) = true := by simp [bne_iff_ne, hz]
      simp [tm, hlt, encI, hz', ho]
  · have : i = L.length := by omega
    subst this
    simp [tm, orL_zero h0]
/-- The order of versions. -/
def cmpV (a b c d : Int) : Int := orL [cmpI a c, cmpI b d]
theorem compareVers (k : Nat) (a b c d : Int) : call code (k + 3) 111 [.agg [.int .i64 a, .int .i64 b], .agg [.int .i64 c, .int .i64 d]] [] = some ⟨.int .i64 (cmpV a b c d), [], []⟩ := by
  refine call_run rfl fn111 rfl ?_
  have o := fun k => orS k [cmpI a c, cmpI b d] (by simp)
  simp only [rws, List.map, encI] at o
  simp [F111, rcall185, compare, rcall188, o, cmpV]
theorem cmpV_neg (a b c d : Int) : decide (cmpV a b c d < 0) = lessB a b c d := by
  unfold cmpV lessB orL orL orL cmpI
  by_cases h1 : a < c
  · simp [h1]
  · by_cases h2 : c < a
    · have : ¬ a = c := by omega
      simp [h1, h2, this]
    · have : a = c := by omega
      subst this
      by_cases h3 : b < d
      · simp [h3]
      · by_cases h4 : d < b <;> simp [h3, h4]
theorem verLess (k : Nat) (a b c d : Int) : call code (k + 4) 38 [.agg [.int .i64 a, .int .i64 b], .agg [.int .i64 c, .int .i64 d]] [] = some ⟨.bool (lessB a b c d), [], []⟩ := by
  refine call_run rfl fn38 rfl ?_
  have h := cmpV_neg a b c d
  simp [F38, rcall111, compareVers, h]
end Go.Ae.GA.B
namespace Go.Ae.GA.B
set_option linter.unusedSimpArgs false
set_option linter.unusedVariables false
set_option maxHeartbeats 4000000 in
theorem entryOkS (k : Nat) (ve vs pe ps : Int) (nm : ByteArray) (g : Bool) (sz sm rc rn : Int) (hs : nm.size ≤ 1048576) : call code (k + 5) 174 [.agg [.int .i64 ve, .int .i64 vs, .int .i64 pe, .int .i64 ps, .str nm, .bool g, .int .i64 sz, .int .i64 sm, .int .i64 rc, .int .i64 rn]] [] = some ⟨.bool (entB ⟨ve, vs, pe, ps, nm, g, sz, sm, rc, rn⟩), [], []⟩ := by
  refine call_run rfl fn174 rfl ?_
  unfold entB
  have h1 := fun k => l17Ver k ve vs
  have h2 := fun k => l17Ver k pe ps
  have h3 := fun k => verLessS k pe ps ve vs
  have h4 := fun k => specNameOk k nm hs
  have h5 := fun k => l17Req k rc rn
  cases c0 : verB ve vs
  · rw [c0] at h1
    simp [F174, rcall98, rcall83, rcall157, rcall226, rcall97, rcall159, h1]
  rw [c0] at h1
  cases c1 : verB pe ps
  · rw [c1] at h2
    simp [F174, rcall98, rcall83, rcall157, rcall226, rcall97, rcall159, h1, h2]
  rw [c1] at h2
  cases c2 : lessB pe ps ve vs
  · rw [c2] at h3
    simp [F174, rcall98, rcall83, rcall157, rcall226, rcall97, rcall159, h1, h2, h3]
  rw [c2] at h3
  cases c3 : nameB nm
  · rw [c3] at h4
    simp [F174, rcall98, rcall83, rcall157, rcall226, rcall97, rcall159, h1, h2, h3, h4]
  rw [c3] at h4
  cases c4 : reqB rc rn
  · rw [c4] at h5
    simp [F174, rcall98, rcall83, rcall157, rcall226, rcall97, rcall159, h1, h2, h3, h4, h5]
  rw [c4] at h5
  have h6 := fun k => l00In k sz 0 64
  have h7 := fun k => l17Sum k sm
  have e1 : (sz != 0) = !(sz == 0) := rfl
  have e2 : (sm != 0) = !(sm == 0) := rfl
  rw [e1, e2]
  cases g
  · unfold sizeB
    cases c6 : inB sz 0 64 <;> cases c7 : sumB sm <;> rw [c6] at h6 <;> rw [c7] at h7 <;> simp [F174, rcall98, rcall83, rcall157, rcall226, rcall97, rcall159, h1, h2, h3, h4, h5, h6, h7]
  · cases c6 : sz == 0 <;> cases c7 : sm == 0 <;> (try (have e3 : sz = 0 := eq_of_beq c6)) <;> (try (have e4 : sm = 0 := eq_of_beq c7)) <;> simp [F174, rcall98, rcall83, rcall157, rcall226, rcall97, rcall159, h1, h2, h3, h4, h5, c6, c7]
    subst e3 e4; rfl
def chkB (nm : ByteArray) (ve vs p sm : Int) (bs : ByteArray) : Bool := nameB nm && (fullB ve vs && (inB p 0 6 && (sumB sm && decide ((bs.size : Int) ≤ 64))))
set_option maxHeartbeats 4000000 in
theorem chunkOkS (k : Nat) (nm : ByteArray) (ve vs p sm : Int) (bs : ByteArray) (hs : nm.size ≤ 1048576) : call code (k + 5) 86 [.agg [.str nm, .int .i64 ve, .int .i64 vs, .int .i64 p, .int .i64 sm, .str bs]] [] = some ⟨.bool (chkB nm ve vs p sm bs), [], []⟩ := by
  refine call_run rfl fn86 rfl ?_
  unfold chkB
  have h1 := fun k => specNameOk k nm hs
  have h2 := fun k => l17Full k ve vs
  have h3 := fun k => l00In k p 0 6
  have h4 := fun k => l17Sum k sm
  cases c0 : nameB nm
  · rw [c0] at h1
    simp [F86, rcall157, rcall158, rcall97, rcall159, h1]
  rw [c0] at h1
  cases c1 : fullB ve vs
  · rw [c1] at h2
    simp [F86, rcall157, rcall158, rcall97, rcall159, h1, h2]
  rw [c1] at h2
  cases c2 : inB p 0 6
  · rw [c2] at h3
    simp [F86, rcall157, rcall158, rcall97, rcall159, h1, h2, h3]
  rw [c2] at h3
  cases c3 : sumB sm
  · rw [c3] at h4
    simp [F86, rcall157, rcall158, rcall97, rcall159, h1, h2, h3, h4]
  rw [c3] at h4
  simp [F86, rcall157, rcall158, rcall97, rcall159, h1, h2, h3, h4]
set_option maxHeartbeats 4000000 in
theorem chunkOk (k : Nat) (nm : ByteArray) (ve vs p sm : Int) (bs : ByteArray) (hs : nm.size ≤ 1048576) : call code (k + 5) 88 [.agg [.str nm, .int .i64 ve, .int .i64 vs, .int .i64 p, .int .i64 sm, .str bs]] [] = some ⟨.bool (chkB nm ve vs p sm bs), [], []⟩ := by
  refine call_run rfl fn88 rfl ?_
  unfold chkB fullB sumB
  have h1 := fun k => implNameOk k nm hs
  have h2 := fun k => verOk k ve vs
  have h3 := fun k => between k p 0 6
  have h4 := fun k => between k sm 0 4294967295
  cases c0 : nameB nm
  · rw [c0] at h1
    simp [F88, rcall161, rcall143, rcall142, h1]
  rw [c0] at h1
  cases c1 : verB ve vs
  · rw [c1] at h2
    simp [F88, rcall161, rcall143, rcall142, h1, h2]
  rw [c1] at h2
  cases c2 : (ve == 0 && vs == 0)
  rotate_left
  · simp [F88, rcall161, rcall143, rcall142, h1, h2, c2]
  cases c3 : inB p 0 6
  · rw [c3] at h3
    simp [F88, rcall161, rcall143, rcall142, h1, h2, c2, h3]
  rw [c3] at h3
  cases c4 : inB sm 0 4294967295
  · rw [c4] at h4
    simp [F88, rcall161, rcall143, rcall142, h1, h2, c2, h3, h4]
  rw [c4] at h4
  simp [F88, rcall161, rcall143, rcall142, h1, h2, c2, h3, h4]
end Go.Ae.GA.B
namespace Go.Ae.GA.B
set_option linter.unusedSimpArgs false
set_option linter.unusedVariables false
theorem bl_irr : ∀ l : List UInt8, Op.bytesLess l l = false
  | [] => rfl
  | a :: x => by simp [Op.bytesLess, bl_irr x]
theorem tl (s : ByteArray) : s.toList = s.data.toList := ByteArray.toList_eq s
theorem cmpN_lt (a b : ByteArray) : cmpN a b < 0 ↔ Op.bytesLess a.toList b.toList = true := by
  rw [tl, tl]
  unfold cmpN
  by_cases h : a.data.toList = b.data.toList
  · rw [if_pos h, h, bl_irr]; simp
  · rw [if_neg h]
    by_cases h2 : Op.bytesLess a.data.toList b.data.toList = true <;> simp [h2]
theorem cmpN_zero (a b : ByteArray) : cmpN a b = 0 ↔ a.toList = b.toList := by
  rw [tl, tl]
  unfold cmpN
  by_cases h : a.data.toList = b.data.toList
  · simp [h]
  · rw [if_neg h]
    by_cases h2 : Op.bytesLess a.data.toList b.data.toList = true <;> simp [h, h2]
def cmpC (a b : GChunk) : Int := orL [cmpN a.Name b.Name, cmpV a.Ver_Epoch a.Ver_Seq b.Ver_Epoch b.Ver_Seq, cmpI a.Pos b.Pos]
def lessC (a b : GChunk) : Bool := if a.Name.toList != b.Name.toList then Op.bytesLess a.Name.toList b.Name.toList else if a.Ver_Epoch != b.Ver_Epoch || a.Ver_Seq != b.Ver_Seq then lessB a.Ver_Epoch a.Ver_Seq b.Ver_Epoch b.Ver_Seq else decide (a.Pos < b.Pos)
theorem cmpV_zero (a b c d : Int) : cmpV a b c d = 0 ↔ a = c ∧ b = d := by
  unfold cmpV orL orL orL cmpI
  by_cases h1 : a < c
  · simp [h1]; omega
  · by_cases h2 : c < a
    · simp [h1, h2]; omega
    · have : a = c := by omega
      subst this
      by_cases h3 : b < d
      · simp [h3]; omega
      · by_cases h4 : d < b
        · simp [h3, h4]; omega
        · simp [h3, h4]; omega
theorem cmpC_lt (a b : GChunk) : decide (0 ≤ cmpC a b) = !lessC a b := by
  unfold cmpC lessC
  rw [orL]
  by_cases h1 : cmpN a.Name b.Name = 0
  · have h1' := (cmpN_zero _ _).1 h1
    rw [if_pos h1, h1']
    simp only [bne_self_eq_false, Bool.false_eq_true, if_false]
    rw [orL]
    by_cases h2 : cmpV a.Ver_Epoch a.Ver_Seq b.Ver_Epoch b.Ver_Seq = 0
    · obtain ⟨e1, e2⟩ := (cmpV_zero _ _ _ _).1 h2
      rw [if_pos h2, e1, e2]
      simp only [bne_self_eq_false, Bool.or_self, Bool.false_eq_true, if_false]
      rw [orL, orL]
      unfold cmpI
      by_cases h3 : a.Pos < b.Pos
      · simp [h3]
      · by_cases h4 : b.Pos < a.Pos <;> simp [h3, h4]
    · rw [if_neg h2]
      have h2' : ¬ (a.Ver_Epoch = b.Ver_Epoch ∧ a.Ver_Seq = b.Ver_Seq) := fun h => h2 ((cmpV_zero _ _ _ _).2 h)
      have e : (a.Ver_Epoch != b.Ver_Epoch || a.Ver_Seq != b.Ver_Seq) = true := by
        by_cases h5 : a.Ver_Epoch = b.Ver_Epoch
        · have : a.Ver_Seq ≠ b.Ver_Seq := fun h => h2' ⟨h5, h⟩
          simp [bne_iff_ne, this]
        · simp [bne_iff_ne, h5]
      rw [e, if_pos rfl, ← cmpV_neg]
      by_cases h6 : cmpV a.Ver_Epoch a.Ver_Seq b.Ver_Epoch b.Ver_Seq < 0
      · have : ¬ 0 ≤ cmpV a.Ver_Epoch a.Ver_Seq b.Ver_Epoch b.Ver_Seq := by omega
        simp [h6, this]
      · have : 0 ≤ cmpV a.Ver_Epoch a.Ver_Seq b.Ver_Epoch b.Ver_Seq := by omega
        simp [h6, this]
  · rw [if_neg h1]
    have h1' : (a.Name.toList != b.Name.toList) = true := by rw [bne_iff_ne]; exact fun h => h1 ((cmpN_zero _ _).2 h)
    rw [h1', if_pos rfl]
    have := cmpN_lt a.Name b.Name
    cases h7 : Op.bytesLess a.Name.toList b.Name.toList
    · rw [h7] at this
      have : ¬ cmpN a.Name b.Name < 0 := fun h => by simpa using this.1 h
      have : 0 ≤ cmpN a.Name b.Name := by omega
      simp [this]
    · have : cmpN a.Name b.Name < 0 := this.2 h7
      have : ¬ 0 ≤ cmpN a.Name b.Name := by omega
      simp [this]
theorem compareChunks (k : Nat) (a b : GChunk) : call code (k + 4) 171 [.agg (GChunk.enc a), .agg (GChunk.enc b)] [] = some ⟨.int .i64 (cmpC a b), [], []⟩ := by
  refine call_run rfl fn171 rfl ?_
  have o := fun k => orS k [cmpN a.Name b.Name, cmpV a.Ver_Epoch a.Ver_Seq b.Ver_Epoch b.Ver_Seq, cmpI a.Pos b.Pos] (by simp)
  have n := fun k => nat225 k [.str a.Name, .str b.Name] [] _ _ rfl
  simp only [rws, List.map, encI] at o
  unfold cmpC
  simp only [GChunk.enc]
  simp [F171, rcall225, n, rcall111, compareVers, rcall185, compare, rcall188, o]
theorem chunkLess (k : Nat) (a b : GChunk) : call code (k + 4) 160 [.agg (GChunk.enc a), .agg (GChunk.enc b)] [] = some ⟨.bool (lessC a b), [], []⟩ := by
  refine call_run rfl fn160 rfl ?_
  unfold lessC
  simp only [GChunk.enc]
  have d1 : (a.Name.toList == b.Name.toList) = !(a.Name.toList != b.Name.toList) := by simp [bne]
  have d2 : (a.Ver_Epoch == b.Ver_Epoch) = !(a.Ver_Epoch != b.Ver_Epoch) := by simp [bne]
  have d3 : (a.Ver_Seq == b.Ver_Seq) = !(a.Ver_Seq != b.Ver_Seq) := by simp [bne]
  have v := fun k => verLessS k a.Ver_Epoch a.Ver_Seq b.Ver_Epoch b.Ver_Seq
  cases c1 : a.Name.toList != b.Name.toList
  rotate_left
  · rw [c1] at d1
    simp [F160, d1]
  rw [c1] at d1
  cases c2 : a.Ver_Epoch != b.Ver_Epoch <;> cases c3 : a.Ver_Seq != b.Ver_Seq <;> rw [c2] at d2 <;> rw [c3] at d3 <;> simp [F160, d1, d2, d3, rcall83, v]
end Go.Ae.GA.B
namespace Go.Ae.GA.B
set_option linter.unusedSimpArgs false
set_option linter.unusedVariables false
/-- A placement group's state, as it is handed over. -/
abbrev psV (p0 p1 se st te ts : Int) (hs : List GHead) (ls : List GLast) (es : List GEntry) (fe fs : Int) (cs : List GChunk) : AV :=
  .agg [.int .i64 p0, .int .i64 p1, .int .i64 se, .int .i64 st, .int .i64 te, .int .i64 ts, .rd true (rws GHead.enc hs), .rd true (rws GLast.enc ls), .rd true (rws GEntry.enc es), .int .i64 fe, .int .i64 fs, .rd true (rws GChunk.enc cs)]
theorem range_all {n : Nat} {p : Nat → Bool} : (List.range n).all p = true ↔ ∀ i, i < n → p i = true := by
  rw [List.all_eq_true]
  exact ⟨fun h i hi => h i (List.mem_range.2 hi), fun h i hi => h i (List.mem_range.1 hi)⟩
theorem range_false {n : Nat} {p : Nat → Bool} {i : Nat} (hi : i < n) (h : p i = false) : (List.range n).all p = false := by
  rw [Bool.eq_false_iff]
  intro h2
  rw [range_all.1 h2 i hi] at h
  cases h
def chkG (c : GChunk) : Bool := chkB c.Name c.Ver_Epoch c.Ver_Seq c.Pos c.Sum c.Bytes
def okC (cs : List GChunk) (i : Nat) : Bool := match cs[i]? with
  | some c => chkG c && (match i with
    | 0 => true
    | j + 1 => match cs[j]? with
      | some b => lessC b c
      | none => false)
  | none => false
def chksB (cs : List GChunk) : Bool := (List.range cs.length).all (okC cs) && decide ((cs.length : Int) ≤ 160)
theorem okC_zero {cs : List GChunk} (h : 0 < cs.length) : okC cs 0 = chkG cs[0] := by
  unfold okC; rw [List.getElem?_eq_getElem h]; simp
theorem okC_succ {cs : List GChunk} {i : Nat} (h : i < cs.length) (h0 : 0 < i) : okC cs i = (chkG cs[i] && lessC (cs[i - 1]'(by omega)) cs[i]) := by
  unfold okC
  rw [List.getElem?_eq_getElem h]
  obtain ⟨j, rfl⟩ : ∃ j, i = j + 1 := ⟨i - 1, by omega⟩
  simp [List.getElem?_eq_getElem (show j < cs.length by omega)]
set_option maxRecDepth 100000 in
set_option maxHeartbeats 16000000 in
theorem chunksOk (k : Nat) (p0 p1 se st te ts : Int) (hs : List GHead) (ls : List GLast) (es : List GEntry) (fe fs : Int) (cs : List GChunk) (hn : cs.length ≤ 1048576) (hz : ∀ c ∈ cs, c.Name.size ≤ 1048576) : call code (k + 6) 146 [psV p0 p1 se st te ts hs ls es fe fs cs] [] = some ⟨.bool (chksB cs), [], []⟩ := by
  refine call_run rfl fn146 rfl ?_
  simp [F146]
  refine RunC_loop (fun i : Nat => ⟨tm 36 [(1, .ptr 0 0 0 [] 0 0), (6, .rd true (rws GChunk.enc cs)), (7, .int .i64 cs.length), (8, .int .i64 i)], [(0, some ⟨0, 12, true, false, [[.int .i64 p0, .int .i64 p1, .int .i64 se, .int .i64 st, .int .i64 te, .int .i64 ts, .rd true (rws GHead.enc hs), .rd true (rws GLast.enc ls), .rd true (rws GEntry.enc es), .int .i64 fe, .int .i64 fs, .rd true (rws GChunk.enc cs)]]⟩)], []⟩)
    (fun i => i ≤ cs.length ∧ ∀ j, j < i → okC cs j = true) (fun i => cs.length - i) 0 ⟨by omega, by omega⟩ (by simp; omega) (by simp [tm]) fun i hi _ => ?_
  obtain ⟨hi, h0⟩ := hi
  by_cases hlt : i < cs.length
  · have hs' := idx_succ' hlt (by omega)
    have hg : ∀ hh, (rws GChunk.enc cs)[i]'hh = GChunk.enc cs[i] := fun hh => rws_get ..
    have hrl := rws_len (enc := GChunk.enc) cs
    have ck := fun k => chunkOk k cs[i].Name cs[i].Ver_Epoch cs[i].Ver_Seq cs[i].Pos cs[i].Sum cs[i].Bytes (hz _ (List.getElem_mem hlt))
    have next : okC cs i = true → ∃ a, (a ≤ cs.length ∧ ∀ j, j < a → okC cs j = true) ∧ cs.length - a < cs.length - i ∧ ((i + 1 : Nat) : Int) = (a : Int) := fun h => ⟨i + 1, ⟨by omega, fun j hj => by
      rcases Nat.lt_succ_iff_lt_or_eq.1 hj with h1 | rfl
      · exact h0 j h1
      · exact h⟩, by omega, rfl⟩
    have stop : okC cs i = false → chksB cs = false := fun h => by unfold chksB; rw [range_false hlt h]; rfl
    by_cases hz0 : i = 0
    · subst hz0
      have e := okC_zero hlt
      cases c1 : chkG cs[0]
      · rw [c1] at e
        unfold chkG at c1
        rw [c1] at ck
        have := stop e
        simp only [GChunk.enc] at hg
        simp [tm, hlt, hg, storeM, rcall88, ck, this]
      · rw [c1] at e
        unfold chkG at c1
        rw [c1] at ck
        have := next e
        simp only [GChunk.enc] at hg
        have w01 : IntKind.wrap .i64 1 = 1 := wrap64 ⟨by omega, by omega⟩
        simp [tm, hlt, hg, storeM, rcall88, ck, w01]
        simpa using this
    · have e := okC_succ hlt (by omega)
      have hg2 : ∀ hh, (rws GChunk.enc cs)[i - 1]'hh = GChunk.enc (cs[i - 1]'(by omega)) := fun hh => rws_get ..
      have w1 : IntKind.wrap .i64 ((i : Int) - 1) = ((i - 1 : Nat) : Int) := by rw [wrap64 ⟨by omega, by omega⟩]; omega
      have hi1 : i - 1 < cs.length := by omega
      have cc := fun k => compareChunks k (cs[i - 1]'(by omega)) cs[i]
      have cl := cmpC_lt (cs[i - 1]'(by omega)) cs[i]
      have hi0 : 0 < i := by omega
      cases c1 : chkG cs[i]
      · rw [c1] at e
        unfold chkG at c1
        rw [c1] at ck
        have := stop e
        simp only [GChunk.enc] at hg
        simp [tm, hlt, hg, storeM, rcall88, ck, this]
      rw [c1, Bool.true_and] at e
      unfold chkG at c1
      rw [c1] at ck
      rw [← e] at cl
      cases c2 : okC cs i
      · have := stop c2
        rw [c2] at cl
        simp only [GChunk.enc] at hg hg2 cc
        simp [tm, hlt, hg, storeM, rcall88, ck, hi0, w1, hi1, hrl, hg2, rcall171, cc, cl, this]
      · have := next c2
        rw [c2] at cl
        simp only [GChunk.enc] at hg hg2 cc
        simp [tm, hlt, hg, storeM, rcall88, ck, hi0, w1, hi1, hrl, hg2, rcall171, cc, cl, hs']
        simpa using this
  · have : i = cs.length := by omega
    subst this
    have e : chksB cs = decide ((cs.length : Int) ≤ 160) := by unfold chksB; rw [range_all.2 h0]; rfl
    rw [e]
    have hrl := rws_len (enc := GChunk.enc) cs
    simp [tm, hrl]
set_option maxRecDepth 100000 in
set_option maxHeartbeats 16000000 in
theorem l17Chunks (k : Nat) (cs : List GChunk) (hn : cs.length ≤ 1048576) (hz : ∀ c ∈ cs, c.Name.size ≤ 1048576) : call code (k + 6) 103 [.rd true (rws GChunk.enc cs)] [] = some ⟨.bool (chksB cs), [], []⟩ := by
  refine call_run rfl fn103 rfl ?_
  simp [F103]
  refine RunC_loop (fun i : Nat => ⟨tm 40 [(0, .rd true (rws GChunk.enc cs)), (3, .int .i64 i)], [], []⟩)
    (fun i => i ≤ cs.length ∧ ∀ j, j < i → okC cs j = true) (fun i => cs.length - i) 0 ⟨by omega, by omega⟩ (by simp; omega) (by simp [tm]) fun i hi _ => ?_
  obtain ⟨hi, h0⟩ := hi
  by_cases hlt0 : 160 < i
  · have e : chksB cs = false := by unfold chksB; rw [show decide ((cs.length : Int) ≤ 160) = false from decide_eq_false (by omega)]; simp
    have hrl := rws_len (enc := GChunk.enc) cs
    have d1 : ¬ (i : Int) ≤ 160 := by omega
    have d2 : ¬ (cs.length : Int) ≤ 160 := by omega
    have d3 : ¬ i ≤ 160 := by omega
    have d4 : ¬ cs.length ≤ 160 := by omega
    rw [e]
    by_cases hlt : i < cs.length <;> simp [tm, hlt, d1, hrl, d1, d2, d3, d4]
  have d1 : (i : Int) ≤ 160 := by omega
  by_cases hlt : i < cs.length
  · have hs' := idx_succ' hlt (by omega)
    have hg : ∀ hh, (rws GChunk.enc cs)[i]'hh = GChunk.enc cs[i] := fun hh => rws_get ..
    have hrl := rws_len (enc := GChunk.enc) cs
    have ck := fun k => chunkOkS k cs[i].Name cs[i].Ver_Epoch cs[i].Ver_Seq cs[i].Pos cs[i].Sum cs[i].Bytes (hz _ (List.getElem_mem hlt))
    have next : okC cs i = true → ∃ a, (a ≤ cs.length ∧ ∀ j, j < a → okC cs j = true) ∧ cs.length - a < cs.length - i ∧ ((i + 1 : Nat) : Int) = (a : Int) := fun h => ⟨i + 1, ⟨by omega, fun j hj => by
      rcases Nat.lt_succ_iff_lt_or_eq.1 hj with h1 | rfl
      · exact h0 j h1
      · exact h⟩, by omega, rfl⟩
    have stop : okC cs i = false → chksB cs = false := fun h => by unfold chksB; rw [range_false hlt h]; rfl
    by_cases hz0 : i = 0
    · subst hz0
      have e := okC_zero hlt
      cases c1 : chkG cs[0]
      · rw [c1] at e
        unfold chkG at c1
        rw [c1] at ck
        have := stop e
        simp only [GChunk.enc] at hg
        simp [tm, hlt, d1, hg, storeM, rcall86, ck, this]
      · rw [c1] at e
        unfold chkG at c1
        rw [c1] at ck
        have := next e
        simp only [GChunk.enc] at hg
        have w01 : IntKind.wrap .i64 1 = 1 := wrap64 ⟨by omega, by omega⟩
        simp [tm, hlt, d1, hg, storeM, rcall86, ck, w01]
        simpa using this
    · have e := okC_succ hlt (by omega)
      have hg2 : ∀ hh, (rws GChunk.enc cs)[i - 1]'hh = GChunk.enc (cs[i - 1]'(by omega)) := fun hh => rws_get ..
      have w1 : IntKind.wrap .i64 ((i : Int) - 1) = ((i - 1 : Nat) : Int) := by rw [wrap64 ⟨by omega, by omega⟩]; omega
      have hi1 : i - 1 < cs.length := by omega
      have cc := fun k => chunkLess k (cs[i - 1]'(by omega)) cs[i]
      have hi0 : 0 < i := by omega
      cases c1 : chkG cs[i]
      · rw [c1] at e
        unfold chkG at c1
        rw [c1] at ck
        have := stop e
        simp only [GChunk.enc] at hg
        simp [tm, hlt, d1, hg, storeM, rcall86, ck, this]
      rw [c1, Bool.true_and] at e
      unfold chkG at c1
      rw [c1] at ck
      rw [← e] at cc
      cases c2 : okC cs i
      · have := stop c2
        rw [c2] at cc
        simp only [GChunk.enc] at hg hg2 cc
        simp [tm, hlt, d1, hg, storeM, rcall86, ck, hi0, w1, hi1, hrl, hg2, rcall160, cc, this]
      · have := next c2
        rw [c2] at cc
        simp only [GChunk.enc] at hg hg2 cc
        simp [tm, hlt, d1, hg, storeM, rcall86, ck, hi0, w1, hi1, hrl, hg2, rcall160, cc, hs']
        simpa using this
  · have : i = cs.length := by omega
    subst this
    have e : chksB cs = decide ((cs.length : Int) ≤ 160) := by unfold chksB; rw [range_all.2 h0]; rfl
    rw [e]
    have hrl := rws_len (enc := GChunk.enc) cs
    simp [tm, d1, hrl]
end Go.Ae.GA.B
