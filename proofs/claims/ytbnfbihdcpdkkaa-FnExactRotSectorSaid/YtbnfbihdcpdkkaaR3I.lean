/- The law FnExactWriteSector over the evaluator's code. -/
import Derived.Test.YtbnfbihdcpdkkaaR3H
namespace Go.Ae.R3
set_option linter.unusedSimpArgs false
set_option linter.unusedVariables false
theorem tk {α : Type} {l : List α} {n : Nat} (h : l.length = n) : l.take n = l := by rw [← h, List.take_length]
theorem hpT_all {l : Heap} {S : Nat} {c : Int} {ws : List ByteArray} (h : l.set S (some ⟨0, 1, false, true, rowsT ws⟩) = l) : hp l S (bT c ws) ws.length = l.set S (some ⟨0, 1, false, true, rowsT (marksT c ws.length)⟩) := by
  rw [hp_all (by simpa [bT, mix_zero] using h)]; simp only [bT, mix_all]; rfl
theorem hpP_all {l : Heap} {S : Nat} {c : Int} {ws : List (Int × ByteArray)} (h : l.set S (some ⟨0, 2, false, true, rowsP ws⟩) = l) : hp l S (bP c ws) ws.length = l.set S (some ⟨0, 2, false, true, rowsP (marksP c ws.length)⟩) := by
  rw [hp_all (by simpa [bP, mix_zero] using h)]; simp only [bP, mix_all]; rfl
theorem rT (c : Int) (n : Nat) : (rowsT (marksT c n)).length = n := by simp [rowsT, marksT]
theorem rP (c : Int) (n : Nat) : (rowsP (marksP c n)).length = n := by simp [rowsP, marksP]
set_option maxRecDepth 100000 in
set_option maxHeartbeats 32000000 in
theorem law5 (n : Nat) (ss : List ByteArray) (ps : List (Int × ByteArray)) (a : Int) (b : ByteArray) (h1 : ss.length ≤ 140737488351232) (h2 : ∀ s ∈ ss, s.size ≤ 140737488351232) (h3 : ps.length ≤ 140737488351232) (h4 : ∀ s ∈ ps, s.2.size ≤ 140737488351232) :
    call code (n + 10) 5 [dsk ss ps, .int .i64 a, .str b] [] = some ⟨.bool true, [], []⟩ := by
  refine call_run rfl fn5 rfl ?_
  cases g0 : decide ((1048576 : Int) < b.size)
  · obtain ⟨r, hz, hr⟩ := szDisk (n + 6) 1048576 ss ps (by omega) h1 h2 h3 h4
    cases g1 : decide (r < 0)
    · have g1' := of_decide_eq_false g1
      have q : ss.length ≤ 1048576 ∧ ps.length ≤ 1048576 := by omega
      obtain ⟨r', ts, qs, e, rfl, w1, w2, hs, hi⟩ := writeSector ss ps a b (by omega) (by omega)
      simp only [resD] at hs hi
      have t := fun n => toDisk n ss ps q.1 q.2
      have ed := fun n => eqDisk n ss ps (by omega) (by omega)
      have eg := fun n => eqDisk n ts qs (by omega) (by omega)
      have m1 := fun n l S T hne => markDisk n l S T ss ps 1 (by omega) (by omega) (by omega) hne
      have m2 := fun n l S T hne => markDisk n l S T ts qs 1 w1 w2 (by omega) hne
      have hh := fun n => heldDisk n ts.length qs.length 1 w1 w2 (by omega)
      have l1 := rowsT_len ss
      have l2 := rowsP_len ps
      have l3 := rowsT_len ts
      have l4 := rowsP_len qs
      have k1 := tk l1
      have k2 := tk l2
      have k3 := tk l3
      have k4 := tk l4
      have k5 := fun c n => tk (rT c n)
      have k6 := fun c n => tk (rP c n)
      have d1 : decide (1 + (ss.length : Int) + 2 * (ps.length : Int) < 0) = false := by simp <;> omega
      have d2 : decide (1 + (ts.length : Int) + 2 * (qs.length : Int) < 0) = false := by simp <;> omega
      simp (maxSteps := 20000000) [F5, g0, rcall18, hz, g1, rcall15, rcall19, rcall20, rcall21, rcall22, rcall23, hi, hs, t, ed, eg, m1, m2, hpT_all, hpP_all, hh, l1, l2, l3, l4, k1, k2, k3, k4, k5, k6, rT, rP, d1, d2]
    · simp [F5, g0, rcall18, hz, g1]
  · simp [F5, g0]
end Go.Ae.R3
