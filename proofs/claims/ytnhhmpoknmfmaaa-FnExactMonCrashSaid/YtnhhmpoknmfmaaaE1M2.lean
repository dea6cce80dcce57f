/- Ballots and increments, the program's and the reference's. -/
import Derived.Test.YtnhhmpoknmfmaaaE1M1
namespace Go.Ae.E1
set_option linter.unusedSimpArgs false
set_option linter.unusedVariables false
set_option maxRecDepth 10000
theorem between (k : Nat) (a b c : Int) : call code (k + 1) 41 [.int .i64 a, .int .i64 b, .int .i64 c] [] = some ⟨.bool (inB a b c), [], []⟩ := by
  refine call_run rfl fn41 rfl ?_
  simp [F41]
  repeat' ((first | apply RunG_ncase | apply RunB_ncase | apply RunG_case | apply RunB_case | apply RunP_case) <;> intro h <;> simp [h])
  all_goals (simp_all [inB] <;> omega)
theorem l00In (k : Nat) (a b c : Int) : call code (k + 1) 34 [.int .i64 a, .int .i64 b, .int .i64 c] [] = some ⟨.bool (inB a b c), [], []⟩ := by
  refine call_run rfl fn34 rfl ?_
  simp [F34]
  repeat' ((first | apply RunG_ncase | apply RunB_ncase | apply RunG_case | apply RunB_case | apply RunP_case) <;> intro h <;> simp [h])
  all_goals (simp_all [inB] <;> omega)
def epB (e : Int) : Bool := inB e 2 60
theorem isDecidable (k : Nat) (e : Int) : call code (k + 2) 80 [.int .i64 e] [] = some ⟨.bool (epB e), [], []⟩ := by
  refine call_run rfl fn80 rfl ?_
  simp [F80, rcall41, between, epB]
theorem l21Epoch (k : Nat) (e : Int) : call code (k + 2) 35 [.int .i64 e] [] = some ⟨.bool (epB e), [], []⟩ := by
  refine call_run rfl fn35 rfl ?_
  simp [F35, rcall34, l00In, epB]
theorem isNode (k : Nat) (e : Int) : call code (k + 2) 72 [.int .i64 e] [] = some ⟨.bool (inB e 0 15), [], []⟩ := by
  refine call_run rfl fn72 rfl ?_
  simp [F72, rcall41, between]
def bl0 (n b : Int) : Bool := n == 0 && b == 0
def blB (n b : Int) : Bool := bl0 n b || (inB n 1 999 && inB b 0 4)
theorem ballotOk (k : Nat) (n b : Int) : call code (k + 2) 81 [.agg [.int .i64 n, .int .i64 b]] [] = some ⟨.bool (blB n b), [], []⟩ := by
  refine call_run rfl fn81 rfl ?_
  have h1 := fun k a b c => between k a b c
  cases c0 : (n == 0) <;> cases c00 : (b == 0) <;> cases c1 : inB n 1 999 <;> cases c2 : inB b 0 4 <;> simp [F81, rcall41, h1, c0, c00, c1, c2, blB, bl0]
theorem l21Ballot (k : Nat) (n b : Int) : call code (k + 2) 36 [.agg [.int .i64 n, .int .i64 b]] [] = some ⟨.bool (blB n b), [], []⟩ := by
  refine call_run rfl fn36 rfl ?_
  have h1 := fun k a b c => l00In k a b c
  cases c0 : (n == 0) <;> cases c00 : (b == 0) <;> cases c1 : inB n 1 999 <;> cases c2 : inB b 0 4 <;> simp [F36, rcall34, h1, c0, c00, c1, c2, blB, bl0]
def leB (n b n' b' : Int) : Bool := decide (n < n') || (n == n' && decide (b < b'))
theorem l21Less (k : Nat) (n b n' b' : Int) : call code (k + 1) 37 [.agg [.int .i64 n, .int .i64 b], .agg [.int .i64 n', .int .i64 b']] [] = some ⟨.bool (leB n b n' b'), [], []⟩ := by
  refine call_run rfl fn37 rfl ?_
  cases c0 : decide (n < n') <;> cases c1 : (n == n') <;> cases c2 : decide (b < b') <;> simp [F37, c0, c1, c2, leB]
def cmpZ (a b : Int) : Int := if a < b then -1 else if b < a then 1 else 0
theorem isNaN (k : Nat) (a : Int) : call code (k + 1) 102 [.int .i64 a] [] = some ⟨.bool false, [], []⟩ := by
  refine call_run rfl fn102 rfl ?_
  simp [F102]
theorem compare (k : Nat) (a b : Int) : call code (k + 2) 78 [.int .i64 a, .int .i64 b] [] = some ⟨.int .i64 (cmpZ a b), [], []⟩ := by
  refine call_run rfl fn78 rfl ?_
  by_cases h1 : a < b
  · simp [F78, rcall102, isNaN, h1, cmpZ]
  · by_cases h2 : b < a
    · simp [F78, rcall102, isNaN, h1, h2, cmpZ]
    · simp [F78, rcall102, isNaN, h1, h2, cmpZ]
def orZ (a b : Int) : Int := if a = 0 then b else a
theorem cmpOr (k : Nat) (a b : Int) : call code (k + 1) 101 [.rd true [[.int .i64 a], [.int .i64 b]]] [] = some ⟨.int .i64 (orZ a b), [], []⟩ := by
  refine call_run rfl fn101 rfl ?_
  simp [F101]
  refine RunC_loop (fun i : Nat => ⟨tm 18 [(3, .int .i64 0), (6, .rd true [[.int .i64 a], [.int .i64 b]]), (7, .int .i64 2), (8, .int .i64 i)], [], []⟩)
    (fun i => i ≤ 2 ∧ (1 ≤ i → a = 0) ∧ (2 ≤ i → b = 0)) (fun i => 2 - i) 0 ⟨by omega, by omega, by omega⟩ (by simp) (by simp [tm]) fun i hi _ => ?_
  obtain ⟨hi, h1, h2⟩ := hi
  have w1 : IntKind.wrap .i64 1 = 1 := rfl
  have w2 : IntKind.wrap .i64 2 = 2 := rfl
  rcases (by omega : i = 0 ∨ i = 1 ∨ i = 2) with rfl | rfl | rfl
  · by_cases ha : a = 0
    · have hn : (a != 0) = false := by simp [ha]
      simp [tm, hn, w1]
      exact ⟨1, by omega, by omega, by simp⟩
    · have hn : (a != 0) = true := by simp [ha]
      simp [tm, hn, ha, orZ]
  · have ha := h1 (by omega)
    by_cases hb : b = 0
    · have hn : (b != 0) = false := by simp [hb]
      simp [tm, hn, w2]
      exact ⟨2, by omega, by omega, by simp⟩
    · have hn : (b != 0) = true := by simp [hb]
      simp [tm, hn, ha, orZ]
  · have ha := h1 (by omega)
    have hb := h2 (by omega)
    simp [tm, ha, hb, orZ]
theorem compareBallots (k : Nat) (n b n' b' : Int) : call code (k + 3) 73 [.agg [.int .i64 n, .int .i64 b], .agg [.int .i64 n', .int .i64 b']] [] = some ⟨.int .i64 (orZ (cmpZ n n') (cmpZ b b')), [], []⟩ := by
  refine call_run rfl fn73 rfl ?_
  have h1 := fun k a b => compare k a b
  have h2 := fun k a b => cmpOr k a b
  simp [F73, rcall78, h1, rcall101, h2, evalW]
theorem lessBallot (k : Nat) (n b n' b' : Int) : call code (k + 4) 42 [.agg [.int .i64 n, .int .i64 b], .agg [.int .i64 n', .int .i64 b']] [] = some ⟨.bool (leB n b n' b'), [], []⟩ := by
  refine call_run rfl fn42 rfl ?_
  have h1 := fun k => compareBallots k n b n' b'
  have h2 : decide (orZ (cmpZ n n') (cmpZ b b') < 0) = leB n b n' b' := by
    unfold orZ cmpZ leB
    rw [Bool.eq_iff_iff]
    simp
    split <;> split <;> (try split) <;> (try split) <;> omega
  generalize orZ (cmpZ n n') (cmpZ b b') = z at *
  simp [F42, rcall73, h1, h2, evalW]
end Go.Ae.E1
namespace Go.Ae.E1
set_option linter.unusedSimpArgs false
set_option linter.unusedVariables false
set_option maxRecDepth 10000
def incB (e k a b : Int) : Bool := inB e 2 60 && inB k 1 6 && inB a 0 15 && !(k == 6 && !(a == 0)) && (if k = 5 then inB b 0 8 else b == 0)
set_option maxHeartbeats 4000000 in
theorem incOk (k : Nat) (e kd a b : Int) : call code (k + 3) 40 [.agg [.int .i64 e, .int .i64 kd, .int .i64 a, .int .i64 b]] [] = some ⟨.bool (incB e kd a b), [], []⟩ := by
  refine call_run rfl fn40 rfl ?_
  have h1 := fun k a b c => between k a b c
  have h2 := fun k a => isNode k a
  unfold incB
  cases c0 : inB e 2 60
  · simp [F40, rcall41, h1, c0]
  cases c1 : inB kd 1 6
  · simp [F40, rcall41, h1, c0, c1]
  cases c2 : inB a 0 15
  · simp [F40, rcall41, h1, rcall72, h2, c0, c1, c2]
  by_cases h5 : kd = 5
  · have h6 : (kd == 6) = false := by simp [h5]
    have h5' : (kd == 5) = true := by simp [h5]
    simp only [h6, if_pos h5]
    simp [F40, rcall41, h1, rcall72, h2, c0, c1, c2, h5', h6]
  · have h5' : (kd == 5) = false := by simp [h5]
    simp only [if_neg h5]
    cases c3 : (kd == 6)
    · simp [F40, rcall41, h1, rcall72, h2, c0, c1, c2, c3, h5']
    · cases c4 : (a == 0)
      · have c4n : (a != 0) = true := by simp [bne, c4]
        simp [F40, rcall41, h1, rcall72, h2, c0, c1, c2, c3, c4n, h5']
      · have c4n : (a != 0) = false := by simp [bne, c4]
        simp [F40, rcall41, h1, rcall72, h2, c0, c1, c2, c3, c4n, h5']
set_option maxHeartbeats 4000000 in
theorem l11Inc (k : Nat) (e kd a b : Int) : call code (k + 3) 98 [.agg [.int .i64 e, .int .i64 kd, .int .i64 a, .int .i64 b]] [] = some ⟨.bool (incB e kd a b), [], []⟩ := by
  refine call_run rfl fn98 rfl ?_
  have h1 := fun k a b c => l00In k a b c
  unfold incB
  cases c0 : inB e 2 60
  · simp [F98, rcall34, h1, c0]
  cases c1 : inB kd 1 6
  · simp [F98, rcall34, h1, c0, c1]
  by_cases h6 : kd = 6
  · have h6' : (kd == 6) = true := by simp [h6]
    have h5 : ¬ kd = 5 := by omega
    simp only [if_neg h5]
    cases c4 : (a == 0)
    · simp [F98, rcall34, h1, c0, c1, h6', c4]
    · have c2 : inB a 0 15 = true := by simp at c4; simp [inB, c4]
      simp [F98, rcall34, h1, c0, c1, c2, h6', c4]
  · have h6' : (kd == 6) = false := by simp [h6]
    by_cases h5 : kd = 5
    · have h5' : (kd == 5) = true := by simp [h5]
      simp only [if_pos h5]
      cases c2 : inB a 0 15
      · simp [F98, rcall34, h1, c0, c1, h6', h5', c2]
      · simp [F98, rcall34, h1, c0, c1, h6', h5', c2]
    · have h5' : (kd == 5) = false := by simp [h5]
      simp only [if_neg h5]
      cases c2 : inB a 0 15
      · simp [F98, rcall34, h1, c0, c1, h6', h5', c2]
      · simp [F98, rcall34, h1, c0, c1, h6', h5', c2]
theorem sIncOk (k : Nat) (e kd a b : Int) : call code (k + 4) 62 [.agg [.int .i64 e, .int .i64 kd, .int .i64 a, .int .i64 b]] [] = some ⟨.bool (incB e kd a b), [], []⟩ := by
  refine call_run rfl fn62 rfl ?_
  have h := fun k => l11Inc k e kd a b
  simp [F62, rcall98, h]
end Go.Ae.E1
namespace Go.Ae.E1
set_option linter.unusedSimpArgs false
set_option linter.unusedVariables false
set_option maxRecDepth 10000
@[simp] theorem evalW_callv (O : Oracle) (md : Nat → Mode) (st : St) (base : Nat) (x : X) (args : List X) (fl : Bool) : evalW O md st base (.callv x args fl) = match evalX st x with
    | .fn f caps => match md f with
      | .val => match callVal O st base f (evalXs st args ++ caps) fl with
        | some (v, n) => match addNews st n with
          | some st' => some (v, st')
          | none => none
        | none => none
      | .view => match callView O st f (evalXs st args ++ caps) with
        | some v => some (v, st)
        | none => none
      | .ref => callRef O st base f (evalXs st args ++ caps) fl
    | _ => none := rfl
def in0 (e k a b : Int) : Bool := e == 0 && (k == 0 && (a == 0 && b == 0))
def valB (an ab e k a b ep : Int) : Bool := if bl0 an ab = true then in0 e k a b else incB e k a b && e == ep
theorem incFor (k : Nat) (e kd a b ep : Int) : call code (k + 4) 83 [.agg [.int .i64 e, .int .i64 kd, .int .i64 a, .int .i64 b], .int .i64 ep] [] = some ⟨.bool (incB e kd a b && e == ep), [], []⟩ := by
  refine call_run rfl fn83 rfl ?_
  have h := fun k => incOk k e kd a b
  cases c0 : incB e kd a b
  · rw [c0] at h; simp [F83, rcall40, h]
  · rw [c0] at h; simp [F83, rcall40, h]
set_option maxHeartbeats 2000000 in
theorem incWith (k : Nat) (an ab e kd a b ep : Int) : call code (k + 5) 82 [.agg [.int .i64 e, .int .i64 kd, .int .i64 a, .int .i64 b], .agg [.int .i64 an, .int .i64 ab], .int .i64 ep] [] = some ⟨.bool (valB an ab e kd a b ep), [], []⟩ := by
  refine call_run rfl fn82 rfl ?_
  have h := fun k => incFor k e kd a b ep
  unfold valB bl0
  cases c0 : (an == 0)
  · simp [F82, rcall83, h, c0]
  · cases c1 : (ab == 0)
    · simp [F82, rcall83, h, c0, c1]
    · simp [F82, c0, c1, in0]
set_option maxHeartbeats 2000000 in
theorem l21Value (k : Nat) (an ab e kd a b ep : Int) : call code (k + 5) 38 [.agg [.int .i64 an, .int .i64 ab], .agg [.int .i64 e, .int .i64 kd, .int .i64 a, .int .i64 b], .int .i64 ep] [] = some ⟨.bool (valB an ab e kd a b ep), [], []⟩ := by
  refine call_run rfl fn38 rfl ?_
  have h := fun k => sIncOk k e kd a b
  unfold valB bl0
  cases c0 : (an == 0)
  · cases c2 : incB e kd a b
    · rw [c2] at h; simp [F38, rcall62, h, c0]
    · rw [c2] at h; simp [F38, rcall62, h, c0]
  · cases c1 : (ab == 0)
    · cases c2 : incB e kd a b
      · rw [c2] at h; simp [F38, rcall62, h, c0, c1]
      · rw [c2] at h; simp [F38, rcall62, h, c0, c1]
    · simp [F38, c0, c1, in0]
def slB (s : GSlot) : Bool := epB s.Epoch && blB s.Promised_No s.Promised_By && blB s.Accepted_No s.Accepted_By && !leB s.Promised_No s.Promised_By s.Accepted_No s.Accepted_By && valB s.Accepted_No s.Accepted_By s.Inc_Epoch s.Inc_Kind s.Inc_A s.Inc_B s.Epoch
set_option maxHeartbeats 4000000 in
theorem slotOk (k : Nat) (s : GSlot) : call code (k + 6) 68 [.agg (GSlot.enc s)] [] = some ⟨.bool (slB s), [], []⟩ := by
  refine call_run rfl fn68 rfl ?_
  have h1 := fun k => isDecidable k s.Epoch
  have h2 := fun k => ballotOk k s.Promised_No s.Promised_By
  have h3 := fun k => ballotOk k s.Accepted_No s.Accepted_By
  have h4 := fun k => lessBallot k s.Promised_No s.Promised_By s.Accepted_No s.Accepted_By
  have h5 := fun k => incWith k s.Accepted_No s.Accepted_By s.Inc_Epoch s.Inc_Kind s.Inc_A s.Inc_B s.Epoch
  unfold slB
  cases c1 : epB s.Epoch
  · rw [c1] at h1; simp [F68, GSlot.enc, rcall80, h1]
  rw [c1] at h1
  cases c2 : blB s.Promised_No s.Promised_By
  · rw [c2] at h2; simp [F68, GSlot.enc, rcall80, h1, rcall81, h2]
  rw [c2] at h2
  cases c3 : blB s.Accepted_No s.Accepted_By
  · rw [c3] at h3; simp [F68, GSlot.enc, rcall80, h1, rcall81, h2, h3]
  rw [c3] at h3
  cases c4 : leB s.Promised_No s.Promised_By s.Accepted_No s.Accepted_By
  · rw [c4] at h4; simp [F68, GSlot.enc, rcall80, h1, rcall81, h2, h3, rcall42, h4, rcall82, h5]
  · rw [c4] at h4; simp [F68, GSlot.enc, rcall80, h1, rcall81, h2, h3, rcall42, h4]
/-- Numbers that rise. -/
def upG (l : List Int) (i : Nat) : Bool := i == 0 || decide (l.getD (i - 1) 0 < l.getD i 0)
def upB (l : List Int) : Bool := (List.range l.length).all (upG l)
def btB (l : List Int) (lo hi : Int) : Bool := (List.range l.length).all fun i => inB (l.getD i 0) lo hi
theorem all_false {f : Nat → Bool} {n i : Nat} (hi : i < n) (h : f i = false) : (List.range n).all f = false := by
  rw [List.all_eq_false]; exact ⟨i, List.mem_range.2 hi, by simp [h]⟩
theorem all_true {f : Nat → Bool} {n : Nat} (h : ∀ i, i < n → f i = true) : (List.range n).all f = true := by
  rw [List.all_eq_true]; exact fun i hi => h i (List.mem_range.1 hi)
theorem gd {l : List Int} {i : Nat} (h : i < l.length) : l.getD i 0 = l[i] := by rw [List.getD_eq_getElem?_getD, List.getElem?_eq_getElem h]; rfl
theorem increasing (k : Nat) (l : List Int) (hn : l.length ≤ 1000000000) : call code (k + 1) 107 [.rd true (rws encI l)] [] = some ⟨.bool (upB l), [], []⟩ := by
  refine call_run rfl fn107 rfl ?_
  simp [F107]
  refine RunC_loop (fun i : Nat => ⟨tm 20 [(0, .rd true (rws encI l)), (3, .int .i64 (i + 1 : Nat))], [], []⟩)
    (fun i => i ≤ l.length ∧ ∀ j, j ≤ i → j < l.length → upG l j = true) (fun i => l.length - i) 0 ⟨Nat.zero_le _, fun j h _ => by rw [Nat.le_zero.1 h]; rfl⟩ (by simp; omega) (by simp [tm]) fun i hi _ => ?_
  obtain ⟨hi, hx⟩ := hi
  by_cases hlt : i + 1 < l.length
  · have hs : IntKind.wrap .i64 (((i + 1 : Nat) : Int) + 1) = ((i + 2 : Nat) : Int) := by rw [wrap64 ⟨by omega, by omega⟩]; omega
    have hm : IntKind.wrap .i64 (((i + 1 : Nat) : Int) - 1) = (i : Nat) := by rw [wrap64 ⟨by omega, by omega⟩]; omega
    have hlt' : i < l.length := by omega
    have hug : upG l (i + 1) = decide (l[i] < l[i + 1]) := by simp only [upG, Nat.add_sub_cancel, gd hlt, gd hlt']; simp
    have hstep : upG l (i + 1) = true → ∀ j, j ≤ i + 1 → j < l.length → upG l j = true := fun hg j h1 h2 => by
      by_cases hj : j = i + 1
      · rw [hj]; exact hg
      · exact hx j (by omega) h2
    have hI : ((i + 1 : Nat) : Int).toNat = i + 1 := Int.toNat_natCast _
    generalize hI1 : ((i + 1 : Nat) : Int) = I1 at *
    have hI0 : 0 ≤ I1 := by omega
    have hI2 : I1 < l.length := by omega
    by_cases hc : l[i + 1] ≤ l[i]
    · have hb : upB l = false := all_false hlt (by rw [hug]; simp; omega)
      simp [tm, hlt, hlt', hI, hI0, hI2, hm, encI, hc, hb]
    · have hg : upG l (i + 1) = true := by rw [hug]; simp; omega
      simp [tm, hlt, hlt', hI, hI0, hI2, hm, encI, hc, hs]
      exact ⟨i + 1, ⟨by omega, hstep hg⟩, by omega, by simp; omega⟩
  · have hb : upB l = true := all_true fun j hj => hx j (by omega) hj
    have hnl : ¬ ((i : Int) + 1 < (l.length : Int)) := by omega
    simp [tm, hlt, hnl, hb]
end Go.Ae.E1
namespace Go.Ae.E1
set_option linter.unusedSimpArgs false
set_option linter.unusedVariables false
set_option maxRecDepth 10000
/-- The first that lies without. -/
def fndN (lo hi : Int) : List Int → Nat → Int
  | [], _ => -1
  | y :: r, i => if inB y lo hi = false then i else fndN lo hi r (i + 1)
theorem fndN_has (lo hi : Int) : ∀ (l : List Int) (i : Nat), decide (0 ≤ fndN lo hi l i) = !(l.all fun y => inB y lo hi)
  | [], i => by simp [fndN]
  | y :: r, i => by
    unfold fndN
    by_cases h : inB y lo hi = false
    · simp [h]
    · rw [if_neg h, fndN_has lo hi r (i + 1)]
      simp at h
      simp [h]
theorem closN (k : Nat) (y lo hi : Int) : call code (k + 2) 114 [.int .i64 y, .rptr [.int .i64 lo], .rptr [.int .i64 hi]] [] = some ⟨.bool (!inB y lo hi), [], []⟩ := by
  refine call_run rfl fn114 rfl ?_
  have h := fun k a b c => between k a b c
  simp [F114, rcall41, h]
theorem indexN (k : Nat) (l : List Int) (lo hi : Int) (hn : l.length ≤ 1000000000) : call code (k + 3) 120 [.rd true (rws encI l), .fn 114 [.rptr [.int .i64 lo], .rptr [.int .i64 hi]]] [] = some ⟨.int .i64 (fndN lo hi l 0), [], []⟩ := by
  refine call_run rfl fn120 rfl ?_
  have md : code.md 114 = .val := rfl
  simp [F120]
  refine RunC_loop (fun i : Nat => ⟨tm 19 [(0, .rd true (rws encI l)), (1, .fn 114 [.rptr [.int .i64 lo], .rptr [.int .i64 hi]]), (7, .int .i64 l.length), (8, .int .i64 i)], [], []⟩)
    (fun i => i ≤ l.length ∧ fndN lo hi (l.drop i) i = fndN lo hi l 0) (fun i => l.length - i) 0 ⟨Nat.zero_le _, by simp⟩ (by simp; omega) (by simp [tm]) fun i hi' _ => ?_
  obtain ⟨hi', hx⟩ := hi'
  by_cases hlt : i < l.length
  · have hs := idx_succ' hlt (by omega)
    rw [List.drop_eq_getElem_cons hlt, fndN] at hx
    have hc := fun k => closN k l[i] lo hi
    cases he : inB l[i] lo hi
    · rw [he] at hx hc
      simp at hx
      rw [← hx]
      simp [tm, hlt, encI, md, hc]
    · rw [he] at hx hc
      simp at hx
      simp [tm, hlt, encI, md, hc, hs]
      exact ⟨i + 1, ⟨by omega, hx⟩, by omega, by simp⟩
  · have : i = l.length := by omega
    subst this
    simp [fndN] at hx
    simp [tm, ← hx]
theorem containsN (k : Nat) (l : List Int) (lo hi : Int) (hn : l.length ≤ 1000000000) : call code (k + 4) 113 [.rd true (rws encI l), .fn 114 [.rptr [.int .i64 lo], .rptr [.int .i64 hi]]] [] = some ⟨.bool (!(l.all fun y => inB y lo hi)), [], []⟩ := by
  refine call_run rfl fn113 rfl ?_
  have h := fun k => indexN k l lo hi hn
  have h2 := fndN_has lo hi l 0
  generalize fndN lo hi l 0 = z at *
  generalize (l.all fun y => inB y lo hi) = b at *
  simp [F113, rcall120, h, h2]
theorem allBetween (k : Nat) (l : List Int) (lo hi : Int) (hn : l.length ≤ 1000000000) : call code (k + 5) 108 [.rd true (rws encI l), .int .i64 lo, .int .i64 hi] [] = some ⟨.bool (l.all fun y => inB y lo hi), [], []⟩ := by
  refine call_run rfl fn108 rfl ?_
  have h := fun k => containsN k l lo hi hn
  generalize (l.all fun y => inB y lo hi) = b at *
  simp [F108, rcall113, h]
theorem btB_eq (l : List Int) (lo hi : Int) : (l.all fun y => inB y lo hi) = btB l lo hi := by
  unfold btB
  rw [Bool.eq_iff_iff, List.all_eq_true, List.all_eq_true]
  constructor
  · intro h i hi
    have hi := List.mem_range.1 hi
    rw [gd hi]; exact h _ (List.getElem_mem hi)
  · intro h y hy
    obtain ⟨i, hi, rfl⟩ := List.getElem_of_mem hy
    have := h i (List.mem_range.2 hi)
    rwa [gd hi] at this
def idsB (l : List Int) (hi : Int) : Bool := upB l && btB l 0 hi
def riB (l : List Int) (hi : Int) : Bool := (List.range l.length).all fun i => inB (l.getD i 0) 0 hi && upG l i
theorem idsB_all (l : List Int) (hi : Int) : idsB l hi = riB l hi := by
  unfold idsB upB btB riB
  rw [Bool.eq_iff_iff]
  simp only [Bool.and_eq_true, List.all_eq_true]
  exact ⟨fun h i hi => ⟨h.2 i hi, h.1 i hi⟩, fun h => ⟨fun i hi => (h i hi).2, fun i hi => (h i hi).1⟩⟩
set_option maxHeartbeats 2000000 in
theorem l00Rises (k : Nat) (l : List Int) (hi0 : Int) (hn : l.length ≤ 1000000000) : call code (k + 2) 70 [.rd true (rws encI l), .int .i64 0, .int .i64 hi0] [] = some ⟨.bool (idsB l hi0), [], []⟩ := by
  refine call_run rfl fn70 rfl ?_
  have hin := fun k a b c => l00In k a b c
  rw [idsB_all]
  simp [F70]
  refine RunC_loop (fun i : Nat => ⟨tm 38 [(0, .rd true (rws encI l)), (1, .int .i64 0), (2, .int .i64 hi0), (7, .int .i64 i)], [], []⟩)
    (fun i => i ≤ l.length ∧ ∀ j, j < i → (inB (l.getD j 0) 0 hi0 && upG l j) = true) (fun i => l.length - i) 0 ⟨Nat.zero_le _, fun j h => absurd h (by omega)⟩ (by simp; omega) (by simp [tm]) fun i hi _ => ?_
  obtain ⟨hi, hx⟩ := hi
  by_cases hlt : i < l.length
  · have hs := idx_succ' hlt (by omega)
    have hbad : (inB (l.getD i 0) 0 hi0 && upG l i) = false → riB l hi0 = false := fun h => all_false hlt h
    have hgood : (inB (l.getD i 0) 0 hi0 && upG l i) = true → ∀ j, j < i + 1 → (inB (l.getD j 0) 0 hi0 && upG l j) = true := fun h j hj => by
      by_cases hj' : j = i
      · rw [hj']; exact h
      · exact hx j (by omega)
    rw [gd hlt] at hbad hgood
    cases c1 : inB l[i] 0 hi0
    · have hb := hbad (by rw [c1]; rfl)
      simp [tm, hlt, encI, rcall34, hin, c1, hb]
    · rw [c1] at hbad hgood
      by_cases h0 : i = 0
      · subst h0
        have hg := hgood rfl
        simp [tm, hlt, encI, rcall34, hin, c1, hs]
        exact ⟨1, ⟨by omega, by simpa using hg⟩, by omega, by simp; rfl⟩
      · have hlt' : i - 1 < l.length := by omega
        have hug : upG l i = decide (l[i - 1] < l[i]) := by unfold upG; rw [gd hlt, gd hlt']; simp [h0]
        have hm : IntKind.wrap .i64 ((i : Int) - 1) = ((i - 1 : Nat) : Int) := by rw [wrap64 ⟨by omega, by omega⟩]; omega
        have hpos : (0 : Int) < i := by omega
        have hpos' : 0 < i := by omega
        generalize i - 1 = i1 at *
        by_cases hc : l[i] ≤ l[i1]
        · have hb := hbad (by rw [hug]; simp; omega)
          simp [tm, hlt, hlt', hpos, hpos', hm, encI, rcall34, hin, c1, hc, hb]
        · have hg := hgood (by rw [hug]; simp; omega)
          simp [tm, hlt, hlt', hpos, hpos', hm, encI, rcall34, hin, c1, hc, hs]
          exact ⟨i + 1, ⟨by omega, by simpa using hg⟩, by omega, by simp⟩
  · have : i = l.length := by omega
    subst this
    have hb : riB l hi0 = true := all_true hx
    simp [tm, hb]
def mjB (l : List Int) (many : Int) : Bool := decide (many < 2 * (l.length : Int))
theorem l21Most (k : Nat) (l : List Int) (many : Int) (hn : l.length ≤ 1000000000) : call code (k + 1) 71 [.rd true (rws encI l), .int .i64 many] [] = some ⟨.bool (mjB l many), [], []⟩ := by
  refine call_run rfl fn71 rfl ?_
  have e1 : IntKind.wrap .i64 (2 * (l.length : Int)) = 2 * (l.length : Int) := wrap64 ⟨by omega, by omega⟩
  simp [F71, e1, mjB]
theorem l21Full (k : Nat) (n b : Int) : call code (k + 3) 69 [.agg [.int .i64 n, .int .i64 b]] [] = some ⟨.bool (blB n b && !bl0 n b), [], []⟩ := by
  refine call_run rfl fn69 rfl ?_
  have h := fun k => l21Ballot k n b
  unfold bl0
  cases c1 : blB n b
  · rw [c1] at h; simp [F69, rcall36, h]
  · rw [c1] at h
    cases c0 : (n == 0) <;> cases c00 : (b == 0) <;> simp [F69, rcall36, h, c0, c00]
end Go.Ae.E1
