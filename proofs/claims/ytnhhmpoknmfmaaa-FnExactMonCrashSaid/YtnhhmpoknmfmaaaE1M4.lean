/- Monitors that are right, the program's and the reference's. -/
import Derived.Test.YtnhhmpoknmfmaaaE1M3
namespace Go.Ae.E1
set_option linter.unusedSimpArgs false
set_option linter.unusedVariables false
set_option maxRecDepth 10000
def gs (l : List GSlot) (i : Nat) : GSlot := l.getD i GSlot.zero
theorem gs_at {l : List GSlot} {i : Nat} (h : i < l.length) : gs l i = l[i] := by rw [gs, List.getD_eq_getElem?_getD, List.getElem?_eq_getElem h]; rfl
/-- Slot i is right, and behind the one before it. -/
def msG (l : List GSlot) (i : Nat) : Bool := slB (gs l i) && (i == 0 || decide ((gs l (i - 1)).Epoch < (gs l i).Epoch))
def msB (l : List GSlot) : Bool := (List.range l.length).all (msG l)
def GMn.ok (m : GMn) : Bool := inB m.many 1 5 && (inB m.id 0 (m.many - 1) && (m.ty && msB m.sl))
/-- Epochs that rise from 2 on: not more than 59. -/
theorem ms_epoch {l : List GSlot} {i : Nat} (h : ∀ j, j ≤ i → msG l j = true) : (i : Int) + 2 ≤ (gs l i).Epoch ∧ (gs l i).Epoch ≤ 60 := by
  induction i with
  | zero =>
    have := h 0 (Nat.le_refl _)
    simp [msG, slB, epB, inB] at this
    omega
  | succ i ih =>
    have h1 := ih fun j hj => h j (by omega)
    have := h (i + 1) (Nat.le_refl _)
    simp [msG, slB, epB, inB] at this
    omega
theorem ms_len {l : List GSlot} (h : msB l = true) : l.length ≤ 59 := by
  by_cases h0 : l.length = 0
  · omega
  · have := ms_epoch (l := l) (i := l.length - 1) fun j hj => List.all_eq_true.1 h j (List.mem_range.2 (by omega))
    omega
end Go.Ae.E1
namespace Go.Ae.E1
set_option linter.unusedSimpArgs false
set_option linter.unusedVariables false
set_option maxRecDepth 10000
set_option maxHeartbeats 16000000 in
theorem monOk (k : Nat) (m : GMn) (hsl : m.sl.length ≤ 1048576) (hp : m.ps.length ≤ 1000000000) (ha : m.as.length ≤ 1000000000) : call code (k + 8) 33 [.agg m.enc] [] = some ⟨.bool m.ok, [], []⟩ := by
  refine call_run rfl fn33 rfl ?_
  have hbt := fun k a b c => between k a b c
  unfold GMn.ok
  cases c1 : inB m.many 1 5
  · simp [F33, GMn.enc, rcall41, hbt, c1]
  have hm : 1 ≤ m.many ∧ m.many ≤ 5 := by simpa [inB] using c1
  have e1 : IntKind.wrap .i64 (m.many - 1) = m.many - 1 := wrap64 ⟨by omega, by omega⟩
  have ht := fun k => tryOk k m hm hp ha
  cases c2 : inB m.id 0 (m.many - 1)
  · simp [F33, GMn.enc, rcall41, hbt, c1, e1, c2]
  cases c3 : m.ty
  · rw [c3] at ht
    simp only [GMn.enc] at ht
    simp [F33, GMn.enc, rcall41, hbt, c1, e1, c2, rcall67, ht]
  rw [c3] at ht
  simp only [GMn.enc] at ht
  simp [F33, GMn.enc, rcall41, hbt, c1, e1, c2, rcall67, ht]
  refine RunC_loop (fun i : Nat => ⟨tm 51 [(1, .ptr 0 0 0 [] 0 0), (24, .rd true (rws GSlot.enc m.sl)), (25, .int .i64 m.sl.length), (26, .int .i64 i)], [(0, some ⟨0, 15, true, false, [m.enc]⟩)], []⟩)
    (fun i => i ≤ m.sl.length ∧ ∀ j, j < i → msG m.sl j = true) (fun i => m.sl.length - i) 0 ⟨Nat.zero_le _, fun j h => absurd h (by omega)⟩ (by simp; omega) (by simp [tm, GMn.enc]) fun i hi _ => ?_
  obtain ⟨hi, hx⟩ := hi
  by_cases hlt : i < m.sl.length
  · simp only [GMn.enc]
    have hs := idx_succ' hlt (by omega)
    have hso := fun k => slotOk k (gs m.sl i)
    have hbad : msG m.sl i = false → msB m.sl = false := fun h => all_false hlt h
    have hgood : msG m.sl i = true → ∀ j, j < i + 1 → msG m.sl j = true := fun h j hj => by
      by_cases hj' : j = i
      · rw [hj']; exact h
      · exact hx j (by omega)
    have hR : ∀ h : i < (rws GSlot.enc m.sl).length, (rws GSlot.enc m.sl)[i]'h = GSlot.enc (gs m.sl i) := fun h => by rw [rws_get, gs_at hlt]
    have hRl : (rws GSlot.enc m.sl).length = m.sl.length := rws_len _ _
    cases v1 : slB (gs m.sl i)
    · have hb := hbad (by simp only [msG, v1]; rfl)
      rw [v1] at hso
      generalize rws GSlot.enc m.sl = R at *
      generalize gs m.sl i = s at *
      simp only [GSlot.enc] at hso hR
      simp [tm, GMn.enc, hlt, hRl, hR, rcall68, hso, hb]
    · rw [v1] at hso
      by_cases h0 : i = 0
      · subst h0
        have hg := hgood (by simp [msG, v1])
        generalize rws GSlot.enc m.sl = R at *
        generalize gs m.sl 0 = s at *
        simp only [GSlot.enc] at hso hR
        simp [tm, GMn.enc, hlt, hRl, hR, rcall68, hso, hs]
        exact ⟨1, ⟨by omega, by simpa using hg⟩, by omega, by simp; rfl⟩
      · have hlt' : i - 1 < m.sl.length := by omega
        have hm1 : IntKind.wrap .i64 ((i : Int) - 1) = ((i - 1 : Nat) : Int) := by rw [wrap64 ⟨by omega, by omega⟩]; omega
        have hR1 : ∀ h : i - 1 < (rws GSlot.enc m.sl).length, (rws GSlot.enc m.sl)[i - 1]'h = GSlot.enc (gs m.sl (i - 1)) := fun h => by rw [rws_get, gs_at hlt']
        have hmg : msG m.sl i = decide ((gs m.sl (i - 1)).Epoch < (gs m.sl i).Epoch) := by simp [msG, v1, h0]
        have hpos : (0 : Int) < i := by omega
        have hpos' : 0 < i := by omega
        rw [hmg] at hbad hgood
        generalize rws GSlot.enc m.sl = R at *
        generalize gs m.sl i = s at *
        generalize gs m.sl (i - 1) = s1 at *
        generalize i - 1 = i1 at *
        simp only [GSlot.enc] at hso hR hR1
        by_cases hc : s.Epoch ≤ s1.Epoch
        · have hb := hbad (by simp; omega)
          simp [tm, GMn.enc, hlt, hlt', hRl, hR, hR1, hm1, hpos, hpos', rcall68, hso, hc, hb]
        · have hg := hgood (by simp; omega)
          simp [tm, GMn.enc, hlt, hlt', hRl, hR, hR1, hm1, hpos, hpos', rcall68, hso, hc, hs]
          exact ⟨i + 1, ⟨by omega, hg⟩, by omega, by simp⟩
  · have : i = m.sl.length := by omega
    subst this
    have hb : msB m.sl = true := all_true hx
    simp [tm, hb]
end Go.Ae.E1
namespace Go.Ae.E1
set_option linter.unusedSimpArgs false
set_option linter.unusedVariables false
set_option maxRecDepth 10000
set_option maxHeartbeats 16000000 in
theorem sMonOk (k : Nat) (m : GMn) (hsl : m.sl.length ≤ 1048576) (hp : m.ps.length ≤ 1000000000) (ha : m.as.length ≤ 1000000000) : call code (k + 8) 14 [.agg m.enc] [] = some ⟨.bool m.ok, [], []⟩ := by
  refine call_run rfl fn14 rfl ?_
  have hbt := fun k a b c => l00In k a b c
  unfold GMn.ok
  cases c1 : inB m.many 1 5
  · simp [F14, GMn.enc, rcall34, hbt, c1]
  have hm : 1 ≤ m.many ∧ m.many ≤ 5 := by simpa [inB] using c1
  have e1 : IntKind.wrap .i64 (m.many - 1) = m.many - 1 := wrap64 ⟨by omega, by omega⟩
  have ht := fun k => l21Try k m hm hp ha
  cases c2 : inB m.id 0 (m.many - 1)
  · simp [F14, GMn.enc, rcall34, hbt, c1, e1, c2]
  by_cases hl : 60 < m.sl.length
  · have hf : msB m.sl = false := by
      cases hb : msB m.sl with
      | false => rfl
      | true => have := ms_len hb; omega
    have d : decide ((60 : Int) < (m.sl.length : Int)) = true := by simp; omega
    have d2 : (60 : Int) < (m.sl.length : Int) := by omega
    simp [F14, GMn.enc, rcall34, hbt, c1, e1, c2, d2, hf]
  have d2 : ¬ (60 : Int) < (m.sl.length : Int) := by omega
  simp only [GMn.enc] at ht
  simp [F14, GMn.enc, rcall34, hbt, c1, e1, c2, d2]
  refine RunC_loop (fun i : Nat => ⟨tm 87 [(1, .ptr 0 0 0 [] 0 0), (3, .int .i64 i)], [(0, some ⟨0, 15, true, false, [m.enc]⟩)], []⟩)
    (fun i => i ≤ m.sl.length ∧ ∀ j, j < i → msG m.sl j = true) (fun i => m.sl.length - i) 0 ⟨Nat.zero_le _, fun j h => absurd h (by omega)⟩ (by simp; omega) (by simp [tm, GMn.enc]) fun i hi _ => ?_
  obtain ⟨hi, hx⟩ := hi
  by_cases hlt : i < m.sl.length
  · simp only [GMn.enc]
    have hs := idx_succ' hlt (by omega)
    have hbad : msG m.sl i = false → msB m.sl = false := fun h => all_false hlt h
    have hgood : msG m.sl i = true → ∀ j, j < i + 1 → msG m.sl j = true := fun h j hj => by
      by_cases hj' : j = i
      · rw [hj']; exact h
      · exact hx j (by omega)
    have hR : ∀ h : i < (rws GSlot.enc m.sl).length, (rws GSlot.enc m.sl)[i]'h = GSlot.enc (gs m.sl i) := fun h => by rw [rws_get, gs_at hlt]
    have hRl : (rws GSlot.enc m.sl).length = m.sl.length := rws_len _ _
    have h1 := fun k => l21Epoch k (gs m.sl i).Epoch
    have h2 := fun k => l21Ballot k (gs m.sl i).Promised_No (gs m.sl i).Promised_By
    have h3 := fun k => l21Ballot k (gs m.sl i).Accepted_No (gs m.sl i).Accepted_By
    have h4 := fun k => l21Less k (gs m.sl i).Promised_No (gs m.sl i).Promised_By (gs m.sl i).Accepted_No (gs m.sl i).Accepted_By
    have h5 := fun k => l21Value k (gs m.sl i).Accepted_No (gs m.sl i).Accepted_By (gs m.sl i).Inc_Epoch (gs m.sl i).Inc_Kind (gs m.sl i).Inc_A (gs m.sl i).Inc_B (gs m.sl i).Epoch
    by_cases h0 : i = 0
    · subst h0
      have hmg : msG m.sl 0 = slB (gs m.sl 0) := by simp [msG]
      rw [hmg] at hbad hgood
      simp only [slB] at hbad hgood
      generalize rws GSlot.enc m.sl = R at *
      generalize gs m.sl 0 = s at *
      simp only [GSlot.enc] at hR
      generalize epB s.Epoch = v1 at *
      generalize blB s.Promised_No s.Promised_By = v2 at *
      generalize blB s.Accepted_No s.Accepted_By = v3 at *
      generalize leB s.Promised_No s.Promised_By s.Accepted_No s.Accepted_By = v4 at *
      generalize valB s.Accepted_No s.Accepted_By s.Inc_Epoch s.Inc_Kind s.Inc_A s.Inc_B s.Epoch = v5 at *
      simp [tm, GMn.enc, hlt, hRl, hR, hs, rcall35, h1, rcall36, h2, h3, rcall37, h4, rcall38, h5]
      cases v1
      · have hb := hbad (by simp)
        simp [rcall35, h1, rcall36, h2, h3, rcall37, h4, rcall38, h5, hb]
      simp [rcall35, h1, rcall36, h2, h3, rcall37, h4, rcall38, h5]
      cases v2
      · have hb := hbad (by simp)
        simp [rcall35, h1, rcall36, h2, h3, rcall37, h4, rcall38, h5, hb]
      simp [rcall35, h1, rcall36, h2, h3, rcall37, h4, rcall38, h5]
      cases v3
      · have hb := hbad (by simp)
        simp [rcall35, h1, rcall36, h2, h3, rcall37, h4, rcall38, h5, hb]
      simp [rcall35, h1, rcall36, h2, h3, rcall37, h4, rcall38, h5]
      cases v4
      rotate_left
      · have hb := hbad (by simp)
        simp [rcall35, h1, rcall36, h2, h3, rcall37, h4, rcall38, h5, hb]
      simp [rcall35, h1, rcall36, h2, h3, rcall37, h4, rcall38, h5]
      cases v5
      · have hb := hbad (by simp)
        simp [rcall35, h1, rcall36, h2, h3, rcall37, h4, rcall38, h5, hb]
      have hg := hgood (by simp)
      simp [rcall35, h1, rcall36, h2, h3, rcall37, h4, rcall38, h5, hs]
      exact ⟨1, ⟨by omega, by simpa using hg⟩, by omega, by simp; rfl⟩
    · have hlt' : i - 1 < m.sl.length := by omega
      have hm1 : IntKind.wrap .i64 ((i : Int) - 1) = ((i - 1 : Nat) : Int) := by rw [wrap64 ⟨by omega, by omega⟩]; omega
      have hR1 : ∀ h : i - 1 < (rws GSlot.enc m.sl).length, (rws GSlot.enc m.sl)[i - 1]'h = GSlot.enc (gs m.sl (i - 1)) := fun h => by rw [rws_get, gs_at hlt']
      have hpos : (0 : Int) < i := by omega
      have hpos' : 0 < i := by omega
      have hi0 : (i == 0) = false := by simp [h0]
      have hmg : msG m.sl i = (slB (gs m.sl i) && decide ((gs m.sl (i - 1)).Epoch < (gs m.sl i).Epoch)) := by unfold msG; rw [hi0]; rfl
      rw [hmg] at hbad hgood
      simp only [slB] at hbad hgood
      generalize rws GSlot.enc m.sl = R at *
      generalize gs m.sl i = s at *
      generalize gs m.sl (i - 1) = s1 at *
      generalize i - 1 = i1 at *
      simp only [GSlot.enc] at hR hR1
      generalize epB s.Epoch = v1 at *
      generalize blB s.Promised_No s.Promised_By = v2 at *
      generalize blB s.Accepted_No s.Accepted_By = v3 at *
      generalize leB s.Promised_No s.Promised_By s.Accepted_No s.Accepted_By = v4 at *
      generalize valB s.Accepted_No s.Accepted_By s.Inc_Epoch s.Inc_Kind s.Inc_A s.Inc_B s.Epoch = v5 at *
      simp [tm, GMn.enc, hlt, hlt', hRl, hR, hR1, hm1, hpos, hpos', hs, rcall35, h1, rcall36, h2, h3, rcall37, h4, rcall38, h5]
      have ho : decide (s1.Epoch < s.Epoch) = !decide (s.Epoch ≤ s1.Epoch) := by rw [Bool.eq_iff_iff]; simp
      rw [ho] at hbad hgood
      cases v1
      · have hb := hbad (by simp)
        simp [rcall35, h1, rcall36, h2, h3, rcall37, h4, rcall38, h5, hlt, hlt', hRl, hR, hR1, hm1, hpos, hpos', hb]
      simp [rcall35, h1, rcall36, h2, h3, rcall37, h4, rcall38, h5, hlt, hlt', hRl, hR, hR1, hm1, hpos, hpos']
      by_cases hc : s.Epoch ≤ s1.Epoch
      · have hb := hbad (by simp [hc])
        simp [rcall35, h1, rcall36, h2, h3, rcall37, h4, rcall38, h5, hlt, hlt', hRl, hR, hR1, hm1, hpos, hpos', hc, hb]
      simp [rcall35, h1, rcall36, h2, h3, rcall37, h4, rcall38, h5, hlt, hlt', hRl, hR, hR1, hm1, hpos, hpos', hc]
      cases v2
      · have hb := hbad (by simp)
        simp [rcall35, h1, rcall36, h2, h3, rcall37, h4, rcall38, h5, hlt, hlt', hRl, hR, hR1, hm1, hpos, hpos', hc, hb]
      simp [rcall35, h1, rcall36, h2, h3, rcall37, h4, rcall38, h5, hlt, hlt', hRl, hR, hR1, hm1, hpos, hpos', hc]
      cases v3
      · have hb := hbad (by simp)
        simp [rcall35, h1, rcall36, h2, h3, rcall37, h4, rcall38, h5, hlt, hlt', hRl, hR, hR1, hm1, hpos, hpos', hc, hb]
      simp [rcall35, h1, rcall36, h2, h3, rcall37, h4, rcall38, h5, hlt, hlt', hRl, hR, hR1, hm1, hpos, hpos', hc]
      cases v4
      rotate_left
      · have hb := hbad (by simp)
        simp [rcall35, h1, rcall36, h2, h3, rcall37, h4, rcall38, h5, hlt, hlt', hRl, hR, hR1, hm1, hpos, hpos', hc, hb]
      simp [rcall35, h1, rcall36, h2, h3, rcall37, h4, rcall38, h5, hlt, hlt', hRl, hR, hR1, hm1, hpos, hpos', hc]
      cases v5
      · have hb := hbad (by simp)
        simp [rcall35, h1, rcall36, h2, h3, rcall37, h4, rcall38, h5, hlt, hlt', hRl, hR, hR1, hm1, hpos, hpos', hc, hb]
      have hg := hgood (by simp [hc])
      simp [rcall35, h1, rcall36, h2, h3, rcall37, h4, rcall38, h5, hlt, hlt', hRl, hR, hR1, hm1, hpos, hpos', hc, hs]
      exact ⟨i + 1, ⟨by omega, hg⟩, by omega, by simp⟩
  · have : i = m.sl.length := by omega
    subst this
    have hb : msB m.sl = true := all_true hx
    cases c3 : m.ty
    · rw [c3] at ht
      simp [tm, GMn.enc, rcall39, ht]
    · rw [c3] at ht
      simp [tm, GMn.enc, rcall39, ht, hb]
end Go.Ae.E1
