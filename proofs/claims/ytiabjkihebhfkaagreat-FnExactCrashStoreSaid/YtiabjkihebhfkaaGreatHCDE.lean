/- The order of versions. -/
import Derived.Test.YtiabjkihebhfkaaGreatHCC
namespace Go.Ae.GA.B
set_option linter.unusedSimpArgs false
set_option linter.unusedVariables false
theorem isNaN (k : Nat) (n : Int) : call code (k + 1) 232 [.int .i64 n] [] = some ⟨.bool false, [], []⟩ := by
  refine call_run rfl fn232 rfl ?_
  simp [F232]
/-- The order of numbers. -/
def cmpI (a b : Int) : Int := if a < b then -1 else if b < a then 1 else 0
theorem compare (k : Nat) (a b : Int) : call code (k + 2) 185 [.int .i64 a, .int .i64 b] [] = some ⟨.int .i64 (cmpI a b), [], []⟩ := by
  refine call_run rfl fn185 rfl ?_
  unfold cmpI
  by_cases h1 : a < b
  · simp [F185, rcall232, isNaN, h1]
  · by_cases h2 : b < a
    · simp [F185, rcall232, isNaN, h1, h2]
    · simp [F185, rcall232, isNaN, h1, h2]
/-- The first number that is not zero. -/
def orL : List Int → Int
  | [] => 0
  | a :: r => if a = 0 then orL r else a
theorem verLessS (k : Nat) (a b c d : Int) : call code (k + 1) 83 [.agg [.int .i64 a, .int .i64 b], .agg [.int .i64 c, .int .i64 d]] [] = some ⟨.bool (lessB a b c d), [], []⟩ := by
  refine call_run rfl fn83 rfl ?_
  unfold lessB
  cases c1 : decide (a < c) <;> cases c2 : a == c <;> cases c3 : decide (b < d) <;> simp [F83, c1, c2, c3]
theorem orL_at {L : List Int} {i : Nat} (h : i < L.length) (h0 : ∀ j, j < i → L[j]? = some 0) : orL L = if L[i] = 0 then orL (L.drop (i + 1)) else L[i] := by
  induction L generalizing i with
  | nil => simp at h
  | cons a r ih =>
    cases i with
    | zero => rfl
    | succ i =>
      have ha : a = 0 := by have := h0 0 (by omega); simpa using this
      rw [orL, if_pos ha, ih (i := i) (by simpa using h) (fun j hj => by have := h0 (j + 1) (by omega); simpa using this)]
      simp
theorem orL_zero {L : List Int} (h0 : ∀ j, j < L.length → L[j]? = some 0) : orL L = 0 := by
  induction L with
  | nil => rfl
  | cons a r ih =>
    have ha : a = 0 := by have := h0 0 (by simp); simpa using this
    rw [orL, if_pos ha, ih fun j hj => by have := h0 (j + 1) (by simpa using hj); simpa using this]
theorem orS (k : Nat) (L : List Int) (hn : L.length ≤ 1000) : call code (k + 1) 188 [.rd true (rws encI L)] [] = some ⟨.int .i64 (orL L), [], []⟩ := by
  refine call_run rfl fn188 rfl ?_
  simp [F188]
  refine RunC_loop (fun i : Nat => ⟨tm 18 [(3, .int .i64 0), (6, .rd true (rws encI L)), (7, .int .i64 L.length), (8, .int .i64 i)], [], []⟩)
    (fun i => i ≤ L.length ∧ ∀ j, j < i → L[j]? = some 0) (fun i => L.length - i) 0 ⟨by omega, by omega⟩ (by simp; omega) (by simp [tm]) fun i hi _ => ?_
  obtain ⟨hi, h0⟩ := hi
  by_cases hlt : i < L.length
  · have hs := idx_succ' hlt (by omega)
    have ho := orL_at hlt h0
    by_cases hz : L[i] = 0
    · simp [tm, hlt, hs, encI, hz]
      refine ⟨i + 1, ⟨by omega, fun j hj => ?_⟩, by omega, by simp⟩
      rcases Nat.lt_succ_iff_lt_or_eq.1 hj with h | rfl
      · exact h0 j h
      · rw [List.getElem?_eq_getElem hlt, hz]
    · rw [if_neg hz] at ho
      have hz' : (L[i] != 0) = true := by simp [bne_iff_ne, hz]
      simp [tm, hlt, encI, hz', ho]
  · have : i = L.length := by omega
    subst this
    simp [tm, orL_zero h0]
/-- The order of versions. -/
def cmpV (a b c d : Int) : Int := orL [cmpI a c, cmpI b d]
theorem compareVers (k : Nat) (a b c d : Int) : call code (k + 3) 111 [.agg [.int .i64 a, .int .i64 b], .agg [.int .i64 c, .int .i64 d]] [] = some ⟨.int .i64 (cmpV a b c d), [], []⟩ := by
  refine call_run rfl fn111 rfl ?_
  have o := fun k => orS k [cmpI a c, cmpI b d] (by simp)
  simp only [rws, List.map, encI] at o
  simp [F111, rcall185, compare, rcall188, o, cmpV]
theorem cmpV_neg (a b c d : Int) : decide (cmpV a b c d < 0) = lessB a b c d := by
  unfold cmpV lessB orL orL orL cmpI
  by_cases h1 : a < c
  · simp [h1]
  · by_cases h2 : c < a
    · have : ¬ a = c := by omega
      simp [h1, h2, this]
    · have : a = c := by omega
      subst this
      by_cases h3 : b < d
      · simp [h3]
      · by_cases h4 : d < b <;> simp [h3, h4]
theorem verLess (k : Nat) (a b c d : Int) : call code (k + 4) 38 [.agg [.int .i64 a, .int .i64 b], .agg [.int .i64 c, .int .i64 d]] [] = some ⟨.bool (lessB a b c d), [], []⟩ := by
  refine call_run rfl fn38 rfl ?_
  have h := cmpV_neg a b c d
  simp [F38, rcall111, compareVers, h]
end Go.Ae.GA.B
namespace Go.Ae.GA.B
set_option linter.unusedSimpArgs false
set_option linter.unusedVariables false
set_option maxHeartbeats 4000000 in
theorem entryOkS (k : Nat) (ve vs pe ps : Int) (nm : ByteArray) (g : Bool) (sz sm rc rn : Int) (hs : nm.size ≤ 1048576) : call code (k + 5) 174 [.agg [.int .i64 ve, .int .i64 vs, .int .i64 pe, .int .i64 ps, .str nm, .bool g, .int .i64 sz, .int .i64 sm, .int .i64 rc, .int .i64 rn]] [] = some ⟨.bool (entB ⟨ve, vs, pe, ps, nm, g, sz, sm, rc, rn⟩), [], []⟩ := by
  refine call_run rfl fn174 rfl ?_
  unfold entB
  have h1 := fun k => l17Ver k ve vs
  have h2 := fun k => l17Ver k pe ps
  have h3 := fun k => verLessS k pe ps ve vs
  have h4 := fun k => specNameOk k nm hs
  have h5 := fun k => l17Req k rc rn
  cases c0 : verB ve vs
  · rw [c0] at h1
    simp [F174, rcall98, rcall83, rcall157, rcall226, rcall97, rcall159, h1]
  rw [c0] at h1
  cases c1 : verB pe ps
  · rw [c1] at h2
    simp [F174, rcall98, rcall83, rcall157, rcall226, rcall97, rcall159, h1, h2]
  rw [c1] at h2
  cases c2 : lessB pe ps ve vs
  · rw [c2] at h3
    simp [F174, rcall98, rcall83, rcall157, rcall226, rcall97, rcall159, h1, h2, h3]
  rw [c2] at h3
  cases c3 : nameB nm
  · rw [c3] at h4
    simp [F174, rcall98, rcall83, rcall157, rcall226, rcall97, rcall159, h1, h2, h3, h4]
  rw [c3] at h4
  cases c4 : reqB rc rn
  · rw [c4] at h5
    simp [F174, rcall98, rcall83, rcall157, rcall226, rcall97, rcall159, h1, h2, h3, h4, h5]
  rw [c4] at h5
  have h6 := fun k => l00In k sz 0 64
  have h7 := fun k => l17Sum k sm
  have e1 : (sz != 0) = !(sz == 0) := rfl
  have e2 : (sm != 0) = !(sm == 0) := rfl
  rw [e1, e2]
  cases g
  · unfold sizeB
    cases c6 : inB sz 0 64 <;> cases c7 : sumB sm <;> rw [c6] at h6 <;> rw [c7] at h7 <;> simp [F174, rcall98, rcall83, rcall157, rcall226, rcall97, rcall159, h1, h2, h3, h4, h5, h6, h7]
  · cases c6 : sz == 0 <;> cases c7 : sm == 0 <;> (try (have e3 : sz = 0 := eq_of_beq c6)) <;> (try (have e4 : sm = 0 := eq_of_beq c7)) <;> simp [F174, rcall98, rcall83, rcall157, rcall226, rcall97, rcall159, h1, h2, h3, h4, h5, c6, c7]
    subst e3 e4; rfl
def chkB (nm : ByteArray) (ve vs p sm : Int) (bs : ByteArray) : Bool := nameB nm && (fullB ve vs && (inB p 0 6 && (sumB sm && decide ((bs.size : Int) ≤ 64))))
set_option maxHeartbeats 4000000 in
theorem chunkOkS (k : Nat) (nm : ByteArray) (ve vs p sm : Int) (bs : ByteArray) (hs : nm.size ≤ 1048576) : call code (k + 5) 86 [.agg [.str nm, .int .i64 ve, .int .i64 vs, .int .i64 p, .int .i64 sm, .str bs]] [] = some ⟨.bool (chkB nm ve vs p sm bs), [], []⟩ := by
  refine call_run rfl fn86 rfl ?_
  unfold chkB
  have h1 := fun k => specNameOk k nm hs
  have h2 := fun k => l17Full k ve vs
  have h3 := fun k => l00In k p 0 6
  have h4 := fun k => l17Sum k sm
  cases c0 : nameB nm
  · rw [c0] at h1
    simp [F86, rcall157, rcall158, rcall97, rcall159, h1]
  rw [c0] at h1
  cases c1 : fullB ve vs
  · rw [c1] at h2
    simp [F86, rcall157, rcall158, rcall97, rcall159, h1, h2]
  rw [c1] at h2
  cases c2 : inB p 0 6
  · rw [c2] at h3
    simp [F86, rcall157, rcall158, rcall97, rcall159, h1, h2, h3]
  rw [c2] at h3
  cases c3 : sumB sm
  · rw [c3] at h4
    simp [F86, rcall157, rcall158, rcall97, rcall159, h1, h2, h3, h4]
  rw [c3] at h4
  simp [F86, rcall157, rcall158, rcall97, rcall159, h1, h2, h3, h4]
set_option maxHeartbeats 4000000 in
theorem chunkOk (k : Nat) (nm : ByteArray) (ve vs p sm : Int) (bs : ByteArray) (hs : nm.size ≤ 1048576) : call code (k + 5) 88 [.agg [.str nm, .int .i64 ve, .int .i64 vs, .int .i64 p, .int .i64 sm, .str bs]] [] = some ⟨.bool (chkB nm ve vs p sm bs), [], []⟩ := by
  refine call_run rfl fn88 rfl ?_
  unfold chkB fullB sumB
  have h1 := fun k => implNameOk k nm hs
  have h2 := fun k => verOk k ve vs
  have h3 := fun k => between k p 0 6
  have h4 := fun k => between k sm 0 4294967295
  cases c0 : nameB nm
  · rw [c0] at h1
    simp [F88, rcall161, rcall143, rcall142, h1]
  rw [c0] at h1
  cases c1 : verB ve vs
  · rw [c1] at h2
    simp [F88, rcall161, rcall143, rcall142, h1, h2]
  rw [c1] at h2
  cases c2 : (ve == 0 && vs == 0)
  rotate_left
  · simp [F88, rcall161, rcall143, rcall142, h1, h2, c2]
  cases c3 : inB p 0 6
  · rw [c3] at h3
    simp [F88, rcall161, rcall143, rcall142, h1, h2, c2, h3]
  rw [c3] at h3
  cases c4 : inB sm 0 4294967295
  · rw [c4] at h4
    simp [F88, rcall161, rcall143, rcall142, h1, h2, c2, h3, h4]
  rw [c4] at h4
  simp [F88, rcall161, rcall143, rcall142, h1, h2, c2, h3, h4]
end Go.Ae.GA.B
