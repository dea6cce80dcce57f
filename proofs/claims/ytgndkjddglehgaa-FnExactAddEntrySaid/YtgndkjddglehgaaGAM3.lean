/- Small checks: numbers, versions, names, requests. -/
import Derived.Test.YtgndkjddglehgaaGAM1
namespace Go.Ae.GA
set_option linter.unusedSimpArgs false
set_option linter.unusedVariables false
theorem between (k : Nat) (a b c : Int) : call code (k + 1) 65 [.int .i64 a, .int .i64 b, .int .i64 c] [] = some ⟨.bool (inB a b c), [], []⟩ := by
  refine call_run rfl fn65 rfl ?_
  simp [F65]
  repeat' ((first | apply RunG_ncase | apply RunB_ncase | apply RunG_case | apply RunB_case | apply RunP_case) <;> intro h <;> simp [h])
  all_goals (simp_all [inB] <;> omega)
theorem l00In (k : Nat) (a b c : Int) : call code (k + 1) 54 [.int .i64 a, .int .i64 b, .int .i64 c] [] = some ⟨.bool (inB a b c), [], []⟩ := by
  refine call_run rfl fn54 rfl ?_
  simp [F54]
  repeat' ((first | apply RunG_ncase | apply RunB_ncase | apply RunG_case | apply RunB_case | apply RunP_case) <;> intro h <;> simp [h])
  all_goals (simp_all [inB] <;> omega)
theorem verOk (k : Nat) (e s : Int) : call code (k + 2) 66 [.agg [.int .i64 e, .int .i64 s]] [] = some ⟨.bool (verB e s), [], []⟩ := by
  refine call_run rfl fn66 rfl ?_
  unfold verB
  have b1 := fun k => between k e 1 60
  have b2 := fun k => between k s 1 1000
  cases c1 : e == 0 <;> cases c2 : s == 0 <;> cases c3 : inB e 1 60 <;> cases c4 : inB s 1 1000 <;> rw [c3] at b1 <;> rw [c4] at b2 <;> simp [F66, rcall65, b1, b2, c1, c2]
theorem l17Zero (k : Nat) (e s : Int) : call code (k + 1) 84 [.agg [.int .i64 e, .int .i64 s]] [] = some ⟨.bool (e == 0 && s == 0), [], []⟩ := by
  refine call_run rfl fn84 rfl ?_
  cases c1 : e == 0 <;> cases c2 : s == 0 <;> simp [F84, c1, c2]
theorem l17Ver (k : Nat) (e s : Int) : call code (k + 2) 55 [.agg [.int .i64 e, .int .i64 s]] [] = some ⟨.bool (verB e s), [], []⟩ := by
  refine call_run rfl fn55 rfl ?_
  unfold verB
  have z := fun k => l17Zero k e s
  have b1 := fun k => l00In k e 1 60
  have b2 := fun k => l00In k s 1 1000
  cases c0 : (e == 0 && s == 0) <;> cases c3 : inB e 1 60 <;> cases c4 : inB s 1 1000 <;> rw [c0] at z <;> rw [c3] at b1 <;> rw [c4] at b2 <;> simp [F55, rcall84, rcall54, z, b1, b2]
/-- A version that is none is left out. -/
def fullB (e s : Int) : Bool := verB e s && !(e == 0 && s == 0)
theorem l17Full (k : Nat) (e s : Int) : call code (k + 3) 85 [.agg [.int .i64 e, .int .i64 s]] [] = some ⟨.bool (fullB e s), [], []⟩ := by
  refine call_run rfl fn85 rfl ?_
  unfold fullB
  have z := fun k => l17Zero k e s
  have v := fun k => l17Ver k e s
  cases c0 : (e == 0 && s == 0) <;> cases c3 : verB e s <;> rw [c0] at z <;> rw [c3] at v <;> simp [F85, rcall84, rcall55, z, v]
theorem l17Client (k : Nat) (n : Int) : call code (k + 2) 86 [.int .i64 n] [] = some ⟨.bool (cliB n), [], []⟩ := by
  refine call_run rfl fn86 rfl ?_
  simp [F86, rcall54, l00In, cliB]
theorem isClient (k : Nat) (n : Int) : call code (k + 2) 100 [.int .i64 n] [] = some ⟨.bool (cliB n), [], []⟩ := by
  refine call_run rfl fn100 rfl ?_
  simp [F100, rcall65, between, cliB]
theorem reqOk (k : Nat) (c n : Int) : call code (k + 3) 82 [.agg [.int .i64 c, .int .i64 n]] [] = some ⟨.bool (reqB c n), [], []⟩ := by
  refine call_run rfl fn82 rfl ?_
  unfold reqB
  have b1 := fun k => isClient k c
  have b2 := fun k => between k n 1 1000
  cases c1 : c == 0 <;> cases c2 : n == 0 <;> cases c3 : cliB c <;> cases c4 : inB n 1 1000 <;> rw [c3] at b1 <;> rw [c4] at b2 <;> simp [F82, rcall100, rcall65, b1, b2, c1, c2]
theorem l17Req (k : Nat) (c n : Int) : call code (k + 3) 79 [.agg [.int .i64 c, .int .i64 n]] [] = some ⟨.bool (reqB c n), [], []⟩ := by
  refine call_run rfl fn79 rfl ?_
  unfold reqB
  have b1 := fun k => l17Client k c
  have b2 := fun k => l00In k n 1 1000
  cases c1 : c == 0 <;> cases c2 : n == 0 <;> cases c3 : cliB c <;> cases c4 : inB n 1 1000 <;> rw [c3] at b1 <;> rw [c4] at b2 <;> simp [F79, rcall86, rcall54, b1, b2, c1, c2]
theorem l17Sum (k : Nat) (n : Int) : call code (k + 2) 80 [.int .i64 n] [] = some ⟨.bool (sumB n), [], []⟩ := by
  refine call_run rfl fn80 rfl ?_
  simp [F80, rcall54, l00In, sumB]
theorem sizeOk (k : Nat) (a b : Int) : call code (k + 2) 83 [.int .i64 a, .int .i64 b] [] = some ⟨.bool (sizeB a b), [], []⟩ := by
  refine call_run rfl fn83 rfl ?_
  unfold sizeB sumB
  have b1 := fun k => between k a 0 64
  have b2 := fun k => between k b 0 4294967295
  cases c3 : inB a 0 64 <;> cases c4 : inB b 0 4294967295 <;> rw [c3] at b1 <;> rw [c4] at b2 <;> simp [F83, rcall65, b1, b2]
def pgB (p n : Int) : Bool := inB p 1 4 && inB n 0 15
theorem pgOk (k : Nat) (p n : Int) : call code (k + 2) 64 [.agg [.int .i64 p, .int .i64 n]] [] = some ⟨.bool (pgB p n), [], []⟩ := by
  refine call_run rfl fn64 rfl ?_
  unfold pgB
  have b1 := fun k => between k p 1 4
  have b2 := fun k => between k n 0 15
  cases c3 : inB p 1 4 <;> cases c4 : inB n 0 15 <;> rw [c3] at b1 <;> rw [c4] at b2 <;> simp [F64, rcall65, b1, b2]
theorem l17Pg (k : Nat) (p n : Int) : call code (k + 2) 53 [.agg [.int .i64 p, .int .i64 n]] [] = some ⟨.bool (pgB p n), [], []⟩ := by
  refine call_run rfl fn53 rfl ?_
  unfold pgB
  have b1 := fun k => l00In k p 1 4
  have b2 := fun k => l00In k n 0 15
  cases c3 : inB p 1 4 <;> cases c4 : inB n 0 15 <;> rw [c3] at b1 <;> rw [c4] at b2 <;> simp [F53, rcall54, b1, b2]
theorem implNameOk (k : Nat) (s : ByteArray) (hs : s.size ≤ 1048576) : call code (k + 2) 81 [.str s] [] = some ⟨.bool (nameB s), [], []⟩ := by
  refine call_run rfl fn81 rfl ?_
  simp [F81]
  refine RunC_loop (fun i : Nat => ⟨[.str s, .undef, .undef, .undef, .undef, .undef, .int .i64 s.size, .int .i64 i] ++ List.replicate 23 .undef, [], []⟩)
    (fun i => i ≤ s.size ∧ ∀ (j : Nat) (c : UInt8), j < i → s.data.toList[j]? = some c → goodC c = true) (fun i => s.size - i) 0 ⟨by omega, by omega⟩ (by simp; omega) (by simp) fun i hi _ => ?_
  by_cases hlt : i < s.size
  · have hc' := bget_pos hlt
    simp [hlt]
    repeat' ((first | apply RunG_ncase | apply RunB_ncase | apply RunG_case | apply RunB_case | apply RunP_case) <;> intro h <;> simp [h])
    all_goals first
      | (have hb : goodC s[i] = false := by simp_all [goodC] <;> omega
         simp [nameB, inB, all_false hc' hb]; done)
      | (have hb : goodC s[i] = true := by simp_all [goodC] <;> omega
         refine ⟨i + 1, ⟨by omega, fun j c hj hjc => ?_⟩, by omega, ?_⟩
         · rcases Nat.lt_succ_iff_lt_or_eq.1 hj with h | rfl
           · exact hi.2 j c h (by simpa using hjc)
           · rw [show s.data.toList[j]? = s.data[j]? from by simp, hjc] at hc'
             cases hc'; exact hb
         · rw [wrap64 (by omega)]; omega)
      | (exfalso; simp_all; done)
  · have : i = s.size := by omega
    subst this
    have hall : s.data.toList.all goodC = true := all_iff.2 fun j c hc => hi.2 j c (by simpa using (List.getElem?_eq_some_iff.1 hc).1) hc
    simp [rcall65, between, nameB, hall, inB]
theorem l09Name (k : Nat) (s : ByteArray) (hs : s.size ≤ 1048576) : call code (k + 1) 99 [.str s] [] = some ⟨.bool (nameB s), [], []⟩ := by
  refine call_run rfl fn99 rfl ?_
  simp [F99]
  by_cases h1 : s.size < 1
  · simp [h1, nameB, inB]
    repeat' ((first | apply RunG_ncase | apply RunB_ncase | apply RunG_case | apply RunB_case | apply RunP_case) <;> intro h <;> simp [h])
    all_goals (first | omega | (simp_all; done) | (simp_all; omega))
  by_cases h2 : 8 < s.size
  · simp [h1, h2, nameB, inB]
    repeat' ((first | apply RunG_ncase | apply RunB_ncase | apply RunG_case | apply RunB_case | apply RunP_case) <;> intro h <;> simp [h])
    all_goals (first | omega | (simp_all; done) | (simp_all; omega))
  have e1 : decide ((s.size : Int) < 1) = false := by simp; omega
  have e2 : decide (8 < (s.size : Int)) = false := by simp; omega
  simp [e1, e2]
  refine RunC_loop (fun i : Nat => ⟨[.str s, .undef, .undef, .int .i64 i] ++ List.replicate 32 .undef, [], []⟩)
    (fun i => i ≤ s.size ∧ ∀ (j : Nat) (c : UInt8), j < i → s.data.toList[j]? = some c → goodC c = true) (fun i => s.size - i) 0 ⟨by omega, by omega⟩ (by simp; omega) (by simp) fun i hi _ => ?_
  by_cases hlt : i < s.size
  · have hc' := bget_pos hlt
    simp [hlt]
    repeat' ((first | apply RunG_ncase | apply RunB_ncase | apply RunG_case | apply RunB_case | apply RunP_case) <;> intro h <;> simp [h])
    all_goals first
      | (have hb : goodC s[i] = false := by simp_all [goodC] <;> omega
         simp [nameB, inB, all_false hc' hb]; done)
      | (have hb : goodC s[i] = true := by simp_all [goodC] <;> omega
         refine ⟨i + 1, ⟨by omega, fun j c hj hjc => ?_⟩, by omega, ?_⟩
         · rcases Nat.lt_succ_iff_lt_or_eq.1 hj with h | rfl
           · exact hi.2 j c h (by simpa using hjc)
           · rw [show s.data.toList[j]? = s.data[j]? from by simp, hjc] at hc'
             cases hc'; exact hb
         · rw [wrap64 (by omega)]; omega)
      | (exfalso; simp_all; done)
  · have : i = s.size := by omega
    subst this
    have hall : s.data.toList.all goodC = true := all_iff.2 fun j c hc => hi.2 j c (by simpa using (List.getElem?_eq_some_iff.1 hc).1) hc
    simp [nameB, inB, hall]
    omega
theorem specNameOk (k : Nat) (s : ByteArray) (hs : s.size ≤ 1048576) : call code (k + 2) 78 [.str s] [] = some ⟨.bool (nameB s), [], []⟩ := by
  refine call_run rfl fn78 rfl ?_
  simp [F78, rcall99, l09Name k s hs]
  repeat' ((first | apply RunG_ncase | apply RunB_ncase | apply RunG_case | apply RunB_case | apply RunP_case) <;> intro h <;> simp [h, rcall99, l09Name k s hs])
end Go.Ae.GA
namespace Go.Ae.GA
set_option linter.unusedSimpArgs false
set_option linter.unusedVariables false
theorem isNaN (k : Nat) (n : Int) : call code (k + 1) 104 [.int .i64 n] [] = some ⟨.bool false, [], []⟩ := by
  refine call_run rfl fn104 rfl ?_
  simp [F104]
/-- The order of numbers. -/
def cmpI (a b : Int) : Int := if a < b then -1 else if b < a then 1 else 0
theorem compare (k : Nat) (a b : Int) : call code (k + 2) 102 [.int .i64 a, .int .i64 b] [] = some ⟨.int .i64 (cmpI a b), [], []⟩ := by
  refine call_run rfl fn102 rfl ?_
  unfold cmpI
  by_cases h1 : a < b
  · simp [F102, rcall104, isNaN, h1]
  · by_cases h2 : b < a
    · simp [F102, rcall104, isNaN, h1, h2]
    · simp [F102, rcall104, isNaN, h1, h2]
/-- The first number that is not zero. -/
def orL : List Int → Int
  | [] => 0
  | a :: r => if a = 0 then orL r else a
theorem verLessS (k : Nat) (a b c d : Int) : call code (k + 1) 59 [.agg [.int .i64 a, .int .i64 b], .agg [.int .i64 c, .int .i64 d]] [] = some ⟨.bool (lessB a b c d), [], []⟩ := by
  refine call_run rfl fn59 rfl ?_
  unfold lessB
  cases c1 : decide (a < c) <;> cases c2 : a == c <;> cases c3 : decide (b < d) <;> simp [F59, c1, c2, c3]
theorem orL_at {L : List Int} {i : Nat} (h : i < L.length) (h0 : ∀ j, j < i → L[j]? = some 0) : orL L = if L[i] = 0 then orL (L.drop (i + 1)) else L[i] := by
  induction L generalizing i with
  | nil => simp at h
  | cons a r ih =>
    cases i with
    | zero => rfl
    | succ i =>
      have ha : a = 0 := by have := h0 0 (by omega); simpa using this
      rw [orL, if_pos ha, ih (i := i) (by simpa using h) (fun j hj => by have := h0 (j + 1) (by omega); simpa using this)]
      simp
theorem orL_zero {L : List Int} (h0 : ∀ j, j < L.length → L[j]? = some 0) : orL L = 0 := by
  induction L with
  | nil => rfl
  | cons a r ih =>
    have ha : a = 0 := by have := h0 0 (by simp); simpa using this
    rw [orL, if_pos ha, ih fun j hj => by have := h0 (j + 1) (by simpa using hj); simpa using this]
theorem orS (k : Nat) (L : List Int) (hn : L.length ≤ 1000) : call code (k + 1) 101 [.rd true (rws encI L)] [] = some ⟨.int .i64 (orL L), [], []⟩ := by
  refine call_run rfl fn101 rfl ?_
  simp [F101]
  refine RunC_loop (fun i : Nat => ⟨tm 18 [(3, .int .i64 0), (6, .rd true (rws encI L)), (7, .int .i64 L.length), (8, .int .i64 i)], [], []⟩)
    (fun i => i ≤ L.length ∧ ∀ j, j < i → L[j]? = some 0) (fun i => L.length - i) 0 ⟨by omega, by omega⟩ (by simp; omega) (by simp [tm]) fun i hi _ => ?_
  obtain ⟨hi, h0⟩ := hi
  by_cases hlt : i < L.length
  · have hs := idx_succ' hlt (by omega)
    have ho := orL_at hlt h0
    by_cases hz : L[i] = 0
    · simp [tm, hlt, hs, encI, hz]
      refine ⟨i + 1, ⟨by omega, fun j hj => ?_⟩, by omega, by simp⟩
      rcases Nat.lt_succ_iff_lt_or_eq.1 hj with h | rfl
      · exact h0 j h
      · rw [List.getElem?_eq_getElem hlt, hz]
    · rw [if_neg hz] at ho
      have hz' : (L[i] != 0) = true := by simp [bne_iff_ne, hz]
      simp [tm, hlt, encI, hz', ho]
  · have : i = L.length := by omega
    subst this
    simp [tm, orL_zero h0]
/-- The order of versions. -/
def cmpV (a b c d : Int) : Int := orL [cmpI a c, cmpI b d]
theorem compareVers (k : Nat) (a b c d : Int) : call code (k + 3) 90 [.agg [.int .i64 a, .int .i64 b], .agg [.int .i64 c, .int .i64 d]] [] = some ⟨.int .i64 (cmpV a b c d), [], []⟩ := by
  refine call_run rfl fn90 rfl ?_
  have o := fun k => orS k [cmpI a c, cmpI b d] (by simp)
  simp only [rws, List.map, encI] at o
  simp [F90, rcall102, compare, rcall101, o, cmpV]
theorem cmpV_neg (a b c d : Int) : decide (cmpV a b c d < 0) = lessB a b c d := by
  unfold cmpV lessB orL orL orL cmpI
  by_cases h1 : a < c
  · simp [h1]
  · by_cases h2 : c < a
    · have : ¬ a = c := by omega
      simp [h1, h2, this]
    · have : a = c := by omega
      subst this
      by_cases h3 : b < d
      · simp [h3]
      · by_cases h4 : d < b <;> simp [h3, h4]
theorem verLess (k : Nat) (a b c d : Int) : call code (k + 4) 69 [.agg [.int .i64 a, .int .i64 b], .agg [.int .i64 c, .int .i64 d]] [] = some ⟨.bool (lessB a b c d), [], []⟩ := by
  refine call_run rfl fn69 rfl ?_
  have h := cmpV_neg a b c d
  simp [F69, rcall90, compareVers, h]
end Go.Ae.GA
namespace Go.Ae.GA
set_option linter.unusedSimpArgs false
set_option linter.unusedVariables false
set_option maxHeartbeats 4000000 in
theorem entryOk (k : Nat) (ve vs pe ps : Int) (nm : ByteArray) (g : Bool) (sz sm rc rn : Int) (hs : nm.size ≤ 1048576) : call code (k + 5) 49 [.agg [.int .i64 ve, .int .i64 vs, .int .i64 pe, .int .i64 ps, .str nm, .bool g, .int .i64 sz, .int .i64 sm, .int .i64 rc, .int .i64 rn]] [] = some ⟨.bool (entB ⟨ve, vs, pe, ps, nm, g, sz, sm, rc, rn⟩), [], []⟩ := by
  refine call_run rfl fn49 rfl ?_
  unfold entB
  have h1 := fun k => verOk k ve vs
  have h2 := fun k => verOk k pe ps
  have h3 := fun k => verLess k pe ps ve vs
  have h4 := fun k => implNameOk k nm hs
  have h5 := fun k => reqOk k rc rn
  have h6 := fun k => sizeOk k sz sm
  cases c0 : verB ve vs
  · rw [c0] at h1
    simp [F49, rcall66, rcall69, rcall81, rcall82, rcall83, h1]
  rw [c0] at h1
  cases c1 : verB pe ps
  · rw [c1] at h2
    simp [F49, rcall66, rcall69, rcall81, rcall82, rcall83, h1, h2]
  rw [c1] at h2
  cases c2 : lessB pe ps ve vs
  · rw [c2] at h3
    simp [F49, rcall66, rcall69, rcall81, rcall82, rcall83, h1, h2, h3]
  rw [c2] at h3
  cases c3 : nameB nm
  · rw [c3] at h4
    simp [F49, rcall66, rcall69, rcall81, rcall82, rcall83, h1, h2, h3, h4]
  rw [c3] at h4
  cases c4 : reqB rc rn
  · rw [c4] at h5
    simp [F49, rcall66, rcall69, rcall81, rcall82, rcall83, h1, h2, h3, h4, h5]
  rw [c4] at h5
  cases c5 : sizeB sz sm
  · rw [c5] at h6
    simp [F49, rcall66, rcall69, rcall81, rcall82, rcall83, h1, h2, h3, h4, h5, h6]
  rw [c5] at h6
  cases g
  · simp [F49, rcall66, rcall69, rcall81, rcall82, rcall83, h1, h2, h3, h4, h5, h6]
  cases c6 : sz != 0 <;> cases c7 : sm != 0 <;> simp [F49, rcall66, rcall69, rcall81, rcall82, rcall83, h1, h2, h3, h4, h5, h6, c6, c7]
set_option maxHeartbeats 4000000 in
theorem entryOkS (k : Nat) (ve vs pe ps : Int) (nm : ByteArray) (g : Bool) (sz sm rc rn : Int) (hs : nm.size ≤ 1048576) : call code (k + 5) 44 [.agg [.int .i64 ve, .int .i64 vs, .int .i64 pe, .int .i64 ps, .str nm, .bool g, .int .i64 sz, .int .i64 sm, .int .i64 rc, .int .i64 rn]] [] = some ⟨.bool (entB ⟨ve, vs, pe, ps, nm, g, sz, sm, rc, rn⟩), [], []⟩ := by
  refine call_run rfl fn44 rfl ?_
  unfold entB
  have h1 := fun k => l17Ver k ve vs
  have h2 := fun k => l17Ver k pe ps
  have h3 := fun k => verLessS k pe ps ve vs
  have h4 := fun k => specNameOk k nm hs
  have h5 := fun k => l17Req k rc rn
  cases c0 : verB ve vs
  · rw [c0] at h1
    simp [F44, rcall55, rcall59, rcall78, rcall79, rcall54, rcall80, h1]
  rw [c0] at h1
  cases c1 : verB pe ps
  · rw [c1] at h2
    simp [F44, rcall55, rcall59, rcall78, rcall79, rcall54, rcall80, h1, h2]
  rw [c1] at h2
  cases c2 : lessB pe ps ve vs
  · rw [c2] at h3
    simp [F44, rcall55, rcall59, rcall78, rcall79, rcall54, rcall80, h1, h2, h3]
  rw [c2] at h3
  cases c3 : nameB nm
  · rw [c3] at h4
    simp [F44, rcall55, rcall59, rcall78, rcall79, rcall54, rcall80, h1, h2, h3, h4]
  rw [c3] at h4
  cases c4 : reqB rc rn
  · rw [c4] at h5
    simp [F44, rcall55, rcall59, rcall78, rcall79, rcall54, rcall80, h1, h2, h3, h4, h5]
  rw [c4] at h5
  have h6 := fun k => l00In k sz 0 64
  have h7 := fun k => l17Sum k sm
  have e1 : (sz != 0) = !(sz == 0) := rfl
  have e2 : (sm != 0) = !(sm == 0) := rfl
  rw [e1, e2]
  cases g
  · unfold sizeB
    cases c6 : inB sz 0 64 <;> cases c7 : sumB sm <;> rw [c6] at h6 <;> rw [c7] at h7 <;> simp [F44, rcall55, rcall59, rcall78, rcall79, rcall54, rcall80, h1, h2, h3, h4, h5, h6, h7]
  · cases c6 : sz == 0 <;> cases c7 : sm == 0 <;> (try (have e3 : sz = 0 := eq_of_beq c6)) <;> (try (have e4 : sm = 0 := eq_of_beq c7)) <;> simp [F44, rcall55, rcall59, rcall78, rcall79, rcall54, rcall80, h1, h2, h3, h4, h5, c6, c7]
    subst e3 e4; rfl
def chkB (nm : ByteArray) (ve vs p sm : Int) (bs : ByteArray) : Bool := nameB nm && (fullB ve vs && (inB p 0 6 && (sumB sm && decide ((bs.size : Int) ≤ 64))))
set_option maxHeartbeats 4000000 in
theorem chunkOkS (k : Nat) (nm : ByteArray) (ve vs p sm : Int) (bs : ByteArray) (hs : nm.size ≤ 1048576) : call code (k + 5) 87 [.agg [.str nm, .int .i64 ve, .int .i64 vs, .int .i64 p, .int .i64 sm, .str bs]] [] = some ⟨.bool (chkB nm ve vs p sm bs), [], []⟩ := by
  refine call_run rfl fn87 rfl ?_
  unfold chkB
  have h1 := fun k => specNameOk k nm hs
  have h2 := fun k => l17Full k ve vs
  have h3 := fun k => l00In k p 0 6
  have h4 := fun k => l17Sum k sm
  cases c0 : nameB nm
  · rw [c0] at h1
    simp [F87, rcall78, rcall85, rcall54, rcall80, h1]
  rw [c0] at h1
  cases c1 : fullB ve vs
  · rw [c1] at h2
    simp [F87, rcall78, rcall85, rcall54, rcall80, h1, h2]
  rw [c1] at h2
  cases c2 : inB p 0 6
  · rw [c2] at h3
    simp [F87, rcall78, rcall85, rcall54, rcall80, h1, h2, h3]
  rw [c2] at h3
  cases c3 : sumB sm
  · rw [c3] at h4
    simp [F87, rcall78, rcall85, rcall54, rcall80, h1, h2, h3, h4]
  rw [c3] at h4
  simp [F87, rcall78, rcall85, rcall54, rcall80, h1, h2, h3, h4]
set_option maxHeartbeats 4000000 in
theorem chunkOk (k : Nat) (nm : ByteArray) (ve vs p sm : Int) (bs : ByteArray) (hs : nm.size ≤ 1048576) : call code (k + 5) 92 [.agg [.str nm, .int .i64 ve, .int .i64 vs, .int .i64 p, .int .i64 sm, .str bs]] [] = some ⟨.bool (chkB nm ve vs p sm bs), [], []⟩ := by
  refine call_run rfl fn92 rfl ?_
  unfold chkB fullB sumB
  have h1 := fun k => implNameOk k nm hs
  have h2 := fun k => verOk k ve vs
  have h3 := fun k => between k p 0 6
  have h4 := fun k => between k sm 0 4294967295
  cases c0 : nameB nm
  · rw [c0] at h1
    simp [F92, rcall81, rcall66, rcall65, h1]
  rw [c0] at h1
  cases c1 : verB ve vs
  · rw [c1] at h2
    simp [F92, rcall81, rcall66, rcall65, h1, h2]
  rw [c1] at h2
  cases c2 : (ve == 0 && vs == 0)
  rotate_left
  · simp [F92, rcall81, rcall66, rcall65, h1, h2, c2]
  cases c3 : inB p 0 6
  · rw [c3] at h3
    simp [F92, rcall81, rcall66, rcall65, h1, h2, c2, h3]
  rw [c3] at h3
  cases c4 : inB sm 0 4294967295
  · rw [c4] at h4
    simp [F92, rcall81, rcall66, rcall65, h1, h2, c2, h3, h4]
  rw [c4] at h4
  simp [F92, rcall81, rcall66, rcall65, h1, h2, c2, h3, h4]
end Go.Ae.GA
namespace Go.Ae.GA
set_option linter.unusedSimpArgs false
set_option linter.unusedVariables false
theorem bl_irr : ∀ l : List UInt8, Op.bytesLess l l = false
  | [] => rfl
  | a :: x => by simp [Op.bytesLess, bl_irr x]
theorem tl (s : ByteArray) : s.toList = s.data.toList := ByteArray.toList_eq s
theorem cmpN_lt (a b : ByteArray) : cmpN a b < 0 ↔ Op.bytesLess a.toList b.toList = true := by
  rw [tl, tl]
  unfold cmpN
  by_cases h : a.data.toList = b.data.toList
  · rw [if_pos h, h, bl_irr]; simp
  · rw [if_neg h]
    by_cases h2 : Op.bytesLess a.data.toList b.data.toList = true <;> simp [h2]
theorem cmpN_zero (a b : ByteArray) : cmpN a b = 0 ↔ a.toList = b.toList := by
  rw [tl, tl]
  unfold cmpN
  by_cases h : a.data.toList = b.data.toList
  · simp [h]
  · rw [if_neg h]
    by_cases h2 : Op.bytesLess a.data.toList b.data.toList = true <;> simp [h, h2]
def cmpC (a b : GChunk) : Int := orL [cmpN a.Name b.Name, cmpV a.Ver_Epoch a.Ver_Seq b.Ver_Epoch b.Ver_Seq, cmpI a.Pos b.Pos]
def lessC (a b : GChunk) : Bool := if a.Name.toList != b.Name.toList then Op.bytesLess a.Name.toList b.Name.toList else if a.Ver_Epoch != b.Ver_Epoch || a.Ver_Seq != b.Ver_Seq then lessB a.Ver_Epoch a.Ver_Seq b.Ver_Epoch b.Ver_Seq else decide (a.Pos < b.Pos)
theorem cmpV_zero (a b c d : Int) : cmpV a b c d = 0 ↔ a = c ∧ b = d := by
  unfold cmpV orL orL orL cmpI
  by_cases h1 : a < c
  · simp [h1]; omega
  · by_cases h2 : c < a
    · simp [h1, h2]; omega
    · have : a = c := by omega
      subst this
      by_cases h3 : b < d
      · simp [h3]; omega
      · by_cases h4 : d < b
        · simp [h3, h4]; omega
        · simp [h3, h4]; omega
theorem cmpC_lt (a b : GChunk) : decide (0 ≤ cmpC a b) = !lessC a b := by
  unfold cmpC lessC
  rw [orL]
  by_cases h1 : cmpN a.Name b.Name = 0
  · have h1' := (cmpN_zero _ _).1 h1
    rw [if_pos h1, h1']
    simp only [bne_self_eq_false, Bool.false_eq_true, if_false]
    rw [orL]
    by_cases h2 : cmpV a.Ver_Epoch a.Ver_Seq b.Ver_Epoch b.Ver_Seq = 0
    · obtain ⟨e1, e2⟩ := (cmpV_zero _ _ _ _).1 h2
      rw [if_pos h2, e1, e2]
      simp only [bne_self_eq_false, Bool.or_self, Bool.false_eq_true, if_false]
      rw [orL, orL]
      unfold cmpI
      by_cases h3 : a.Pos < b.Pos
      · simp [h3]
      · by_cases h4 : b.Pos < a.Pos <;> simp [h3, h4]
    · rw [if_neg h2]
      have h2' : ¬ (a.Ver_Epoch = b.Ver_Epoch ∧ a.Ver_Seq = b.Ver_Seq) := fun h => h2 ((cmpV_zero _ _ _ _).2 h)
      have e : (a.Ver_Epoch != b.Ver_Epoch || a.Ver_Seq != b.Ver_Seq) = true := by
        by_cases h5 : a.Ver_Epoch = b.Ver_Epoch
        · have : a.Ver_Seq ≠ b.Ver_Seq := fun h => h2' ⟨h5, h⟩
          simp [bne_iff_ne, this]
        · simp [bne_iff_ne, h5]
      rw [e, if_pos rfl, ← cmpV_neg]
      by_cases h6 : cmpV a.Ver_Epoch a.Ver_Seq b.Ver_Epoch b.Ver_Seq < 0
      · have : ¬ 0 ≤ cmpV a.Ver_Epoch a.Ver_Seq b.Ver_Epoch b.Ver_Seq := by omega
        simp [h6, this]
      · have : 0 ≤ cmpV a.Ver_Epoch a.Ver_Seq b.Ver_Epoch b.Ver_Seq := by omega
        simp [h6, this]
  · rw [if_neg h1]
    have h1' : (a.Name.toList != b.Name.toList) = true := by rw [bne_iff_ne]; exact fun h => h1 ((cmpN_zero _ _).2 h)
    rw [h1', if_pos rfl]
    have := cmpN_lt a.Name b.Name
    cases h7 : Op.bytesLess a.Name.toList b.Name.toList
    · rw [h7] at this
      have : ¬ cmpN a.Name b.Name < 0 := fun h => by simpa using this.1 h
      have : 0 ≤ cmpN a.Name b.Name := by omega
      simp [this]
    · have : cmpN a.Name b.Name < 0 := this.2 h7
      have : ¬ 0 ≤ cmpN a.Name b.Name := by omega
      simp [this]
theorem compareChunks (k : Nat) (a b : GChunk) : call code (k + 4) 93 [.agg (GChunk.enc a), .agg (GChunk.enc b)] [] = some ⟨.int .i64 (cmpC a b), [], []⟩ := by
  refine call_run rfl fn93 rfl ?_
  have o := fun k => orS k [cmpN a.Name b.Name, cmpV a.Ver_Epoch a.Ver_Seq b.Ver_Epoch b.Ver_Seq, cmpI a.Pos b.Pos] (by simp)
  have n := fun k => nat103 k [.str a.Name, .str b.Name] [] _ _ rfl
  simp only [rws, List.map, encI] at o
  unfold cmpC
  simp only [GChunk.enc]
  simp [F93, rcall103, n, rcall90, compareVers, rcall102, compare, rcall101, o]
theorem chunkLess (k : Nat) (a b : GChunk) : call code (k + 4) 88 [.agg (GChunk.enc a), .agg (GChunk.enc b)] [] = some ⟨.bool (lessC a b), [], []⟩ := by
  refine call_run rfl fn88 rfl ?_
  unfold lessC
  simp only [GChunk.enc]
  have d1 : (a.Name.toList == b.Name.toList) = !(a.Name.toList != b.Name.toList) := by simp [bne]
  have d2 : (a.Ver_Epoch == b.Ver_Epoch) = !(a.Ver_Epoch != b.Ver_Epoch) := by simp [bne]
  have d3 : (a.Ver_Seq == b.Ver_Seq) = !(a.Ver_Seq != b.Ver_Seq) := by simp [bne]
  have v := fun k => verLessS k a.Ver_Epoch a.Ver_Seq b.Ver_Epoch b.Ver_Seq
  cases c1 : a.Name.toList != b.Name.toList
  rotate_left
  · rw [c1] at d1
    simp [F88, d1]
  rw [c1] at d1
  cases c2 : a.Ver_Epoch != b.Ver_Epoch <;> cases c3 : a.Ver_Seq != b.Ver_Seq <;> rw [c2] at d2 <;> rw [c3] at d3 <;> simp [F88, d1, d2, d3, rcall59, v]
end Go.Ae.GA
