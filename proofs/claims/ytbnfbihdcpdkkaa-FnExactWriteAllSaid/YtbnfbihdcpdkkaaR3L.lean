/- The law FnExactRotSector over the evaluator's code. -/
import Derived.Test.YtbnfbihdcpdkkaaR3K
namespace Go.Ae.R3
set_option linter.unusedSimpArgs false
set_option linter.unusedVariables false
set_option maxRecDepth 100000 in
set_option maxHeartbeats 32000000 in
theorem law6 (n : Nat) (ss : List ByteArray) (ps : List (Int × ByteArray)) (a p b : Int) (h1 : ss.length ≤ 140737488351232) (h2 : ∀ s ∈ ss, s.size ≤ 140737488351232) (h3 : ps.length ≤ 140737488351232) (h4 : ∀ s ∈ ps, s.2.size ≤ 140737488351232) :
    call code (n + 10) 6 [dsk ss ps, .int .i64 a, .int .i64 p, .int .i64 b] [] = some ⟨.bool true, [], []⟩ := by
  refine call_run rfl fn6 rfl ?_
  obtain ⟨r, hz, hr⟩ := szDisk (n + 6) 1048576 ss ps (by omega) h1 h2 h3 h4
  cases g1 : decide (r < 0)
  · have g1' := of_decide_eq_false g1
    have q : ss.length ≤ 1048576 ∧ ps.length ≤ 1048576 := by omega
    obtain ⟨r', ts, qs, e, rfl, w1, w2, hs, hi⟩ := rotSector ss ps a p b (by omega) (by omega)
    simp only [resD] at hs hi
    have t := fun n => toDisk n ss ps q.1 q.2
    have ed := fun n => eqDisk n ss ps (by omega) (by omega)
    have eg := fun n => eqDisk n ts qs (by omega) (by omega)
    have m1 := fun n l S T hne => markDisk n l S T ss ps 1 (by omega) (by omega) (by omega) hne
    have m2 := fun n l S T hne => markDisk n l S T ts qs 1 w1 w2 (by omega) hne
    have hh := fun n => heldDisk n ts.length qs.length 1 w1 w2 (by omega)
    have l1 := rowsT_len ss
    have l2 := rowsP_len ps
    have l3 := rowsT_len ts
    have l4 := rowsP_len qs
    have k1 := tk l1
    have k2 := tk l2
    have k3 := tk l3
    have k4 := tk l4
    have k5 := fun c n => tk (rT c n)
    have k6 := fun c n => tk (rP c n)
    have d1 : decide (1 + (ss.length : Int) + 2 * (ps.length : Int) < 0) = false := by simp <;> omega
    have d2 : decide (1 + (ts.length : Int) + 2 * (qs.length : Int) < 0) = false := by simp <;> omega
    simp (maxSteps := 20000000) [F6, rcall18, hz, g1, rcall10, rcall24, rcall20, rcall21, rcall22, rcall23, hi, hs, t, ed, eg, m1, m2, hpT_all, hpP_all, hh, l1, l2, l3, l4, k1, k2, k3, k4, k5, k6, rT, rP, d1, d2]
  · simp [F6, rcall18, hz, g1]
theorem lawRotSector (avs : List AV) (h : PFitsAll [(true, [.sl 16 [.str], .sl 24 [.int .i64, .str]]), (false, [.int .i64]), (false, [.int .i64]), (false, [.int .i64])] avs) : ∃ n bs e, call code n 6 avs [] = some ⟨.bool true, bs, e⟩ := by
  obtain ⟨v0, r, rfl, h0, h⟩ := h.cons_inv
  obtain ⟨v1, r, rfl, h1, h⟩ := h.cons_inv
  obtain ⟨v2, r, rfl, h2, h⟩ := h.cons_inv
  obtain ⟨v3, r, rfl, h3, h⟩ := h.cons_inv
  obtain rfl := h.nil_inv
  obtain ⟨ss, ps, rfl, b1, b2, b3, b4⟩ := disk_fit h0
  obtain ⟨a, rfl, _⟩ := h1.one_inv.i64_inv
  obtain ⟨p, rfl, _⟩ := h2.one_inv.i64_inv
  obtain ⟨b, rfl, _⟩ := h3.one_inv.i64_inv
  exact ⟨_, _, _, law6 0 ss ps a p b b1 b2 b3 b4⟩
end Go.Ae.R3
