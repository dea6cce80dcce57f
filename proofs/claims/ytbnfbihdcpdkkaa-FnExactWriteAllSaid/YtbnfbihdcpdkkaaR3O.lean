/- The law FnExactWriteAll over the evaluator's code. -/
import Derived.Test.YtbnfbihdcpdkkaaR3N
namespace Go.Ae.R3
set_option linter.unusedSimpArgs false
set_option linter.unusedVariables false
theorem markStringS1 (k : Nat) (l0 : Heap) (S : Nat) (ws : List ByteArray) (c : Int) (hn : ws.length ≤ 1050000) (hc : 1 ≤ c ∧ c ≤ 6000000) (hm : c + ws.length ≤ 8000000) (hl : l0.get S = some (some ⟨0, 1, false, true, rowsT ws⟩)) :
    call code (k + 2) 30 [.sl 1 S 0 [] 0 ws.length, .int .i64 c] [l0] = some ⟨.int .i64 (c + ws.length), [], [hp l0 S (bT c ws) ws.length]⟩ := by
  refine call_run rfl fn30 rfl ?_
  simp [F30]
  refine RunC_loop (fun i : Nat => ⟨[.sl 1 S 0 [] 0 ws.length, .int .i64 (c + i), .undef, .undef, .undef, .int .i64 i] ++ List.replicate 14 .undef, [], [hp l0 S (bT c ws) i]⟩)
    (fun i => i ≤ ws.length) (fun i => ws.length - i) 0 (Nat.zero_le _) (by simp; omega) (by simp [hp]) fun i hi _ => ?_
  have hg : (hp l0 S (bT c ws) i).get S = some (some (bT c ws i)) := hp_get (by simpa [bT, mix_zero] using hl) i
  have hml := mix_len (f := mT c) hi
  have hrl := rowsT_len (mix (mT c) ws i)
  rw [hml] at hrl
  by_cases hlt : i < ws.length
  · have hlt' : i < (mix (mT c) ws i).length := by omega
    have hgi : ∀ h, (rowsT (mix (mT c) ws i))[i]'h = [AV.str ((mix (mT c) ws i)[i])] := fun h => rowsT_at hlt' h
    have hs := idx_succ (i := i) hlt (by omega)
    have hs2 : IntKind.wrap .i64 (c + (i : Int) + 1) = c + ((i + 1 : Nat) : Int) := by rw [wrap64 ⟨by omega, by omega⟩]; omega
    have hmt := fun k => markTextI k (c + i) (by omega)
    have hset : (rowsT (mix (mT c) ws i)).set i [.str (mtext (c + (i : Int)))] = rowsT (mix (mT c) ws (i + 1)) := by rw [rowsT_set, ← mix_set hlt]; rfl
    have hhs : (hp l0 S (bT c ws) i).set S (some ⟨0, 1, false, true, rowsT (mix (mT c) ws (i + 1))⟩) = hp l0 S (bT c ws) (i + 1) := hp_set i
    simp only [bT] at hg
    simp [hlt, hg, hrl, hgi, hs, hs2, rcall57, hmt, hset, hhs]
    exact ⟨i + 1, by omega, by omega, by simp, rfl⟩
  · have : i = ws.length := by omega
    subst this
    simp only [bT] at hg
    simp [hg]
theorem WAr_shape (ss : List ByteArray) (ps : List (Int × ByteArray)) (a : Int) (l : List ByteArray) (h1 : ss.length ≤ 1048576) (h2 : ps.length ≤ 1048576) (h3 : l.length ≤ 1048576) : ∃ ts qs e, WAr ss ps a l = resD ts qs e ∧ ts.length ≤ 1050000 ∧ qs.length ≤ 1050000 := by
  unfold WAr
  split
  · split
    · exact ⟨[], [], 2, rfl, by simp, by simp⟩
    · split
      · exact ⟨[], [], 4, rfl, by simp, by simp⟩
      · rename_i h
        refine ⟨ss, _, 0, rfl, by omega, ?_⟩
        simp at h
        rw [List.length_append, wrs_len]; omega
  · exact ⟨[], [], 1, rfl, by simp, by simp⟩
theorem szS_ok {l : Int} {ws : List ByteArray} (hl : 0 ≤ l) (h : ¬ szR l (sizes ws) < 0) : (ws.length : Int) ≤ l := by
  have := szR_ok hl h
  rw [show (sizes ws).length = ws.length by simp [sizes]] at this
  exact this.1
set_option maxRecDepth 100000 in
set_option maxHeartbeats 64000000 in
theorem law7 (n : Nat) (ss : List ByteArray) (ps : List (Int × ByteArray)) (a : Int) (li : List ByteArray) (h1 : ss.length ≤ 140737488351232) (h2 : ∀ s ∈ ss, s.size ≤ 140737488351232) (h3 : ps.length ≤ 140737488351232) (h4 : ∀ s ∈ ps, s.2.size ≤ 140737488351232) (h5 : li.length ≤ 140737488351232) (h6 : ∀ s ∈ li, s.size ≤ 140737488351232) :
    call code (n + 10) 7 [dsk ss ps, .int .i64 a, .rd true (rowsT li)] [] = some ⟨.bool true, [], []⟩ := by
  refine call_run rfl fn7 rfl ?_
  obtain ⟨r, hz, hr⟩ := szDisk (n + 6) 1048576 ss ps (by omega) h1 h2 h3 h4
  cases g1 : decide (r < 0)
  · have g1' := of_decide_eq_false g1
    have q : ss.length ≤ 1048576 ∧ ps.length ≤ 1048576 := by omega
    have hz2 := fun k => szStringS k r li (by omega) h5 h6
    cases g2 : decide (szR r (sizes li) < 0)
    · have q2 := szS_ok (by omega) (of_decide_eq_false g2)
      obtain ⟨ts, qs, e, hw, w1, w2⟩ := WAr_shape ss ps a li (by omega) (by omega) (by omega)
      have hs := fun n => specAll n ss ps a li (by omega) (by omega) (by omega)
      have hi := fun n => implAll n ss ps a li (by omega) (by omega) (by omega)
      rw [hw] at hs hi
      simp only [resD] at hs hi
      have t := fun n => toDisk n ss ps q.1 q.2
      have tl := fun n => toStringS n li (by omega)
      have ed := fun n => eqDisk n ss ps (by omega) (by omega)
      have el := fun n => eqStringS n li (by omega)
      have eg := fun n => eqDisk n ts qs (by omega) (by omega)
      have m1 := fun n l S T hne => markDisk n l S T ss ps 1 (by omega) (by omega) (by omega) hne
      have m2 := fun n l S T hne => markDisk n l S T ts qs 1 w1 w2 (by omega) hne
      have m3 := fun n l S => markStringS1 n l S li (1 + ss.length + 2 * ps.length) (by omega) (by omega) (by omega)
      have hh := fun n => heldDisk n ts.length qs.length 1 w1 w2 (by omega)
      have l1 := rowsT_len ss
      have l2 := rowsP_len ps
      have l3 := rowsT_len ts
      have l4 := rowsP_len qs
      have l5 := rowsT_len li
      have k1 := tk l1
      have k2 := tk l2
      have k3 := tk l3
      have k4 := tk l4
      have k7 := tk l5
      have k5 := fun c n => tk (rT c n)
      have k6 := fun c n => tk (rP c n)
      have d1 : decide (1 + (ss.length : Int) + 2 * (ps.length : Int) + (li.length : Int) < 0) = false := by simp <;> omega
      have d2 : decide (1 + (ts.length : Int) + 2 * (qs.length : Int) < 0) = false := by simp <;> omega
      simp (maxSteps := 20000000) [F7, rcall18, hz, g1, rcall25, hz2, g2, rcall26, rcall28, rcall20, rcall21, rcall22, rcall23, rcall27, rcall29, rcall30, hi, hs, t, tl, ed, el, eg, m1, m2, m3, hpT_all, hpP_all, hh, l1, l2, l3, l4, l5, k1, k2, k3, k4, k5, k6, k7, rT, rP, d1, d2]
    · simp [F7, rcall18, hz, g1, rcall25, hz2, g2]
  · simp [F7, rcall18, hz, g1]
theorem lawWriteAll (avs : List AV) (h : PFitsAll [(true, [.sl 16 [.str], .sl 24 [.int .i64, .str]]), (false, [.int .i64]), (false, [.sl 16 [.str]])] avs) : ∃ n bs e, call code n 7 avs [] = some ⟨.bool true, bs, e⟩ := by
  obtain ⟨v0, r, rfl, h0, h⟩ := h.cons_inv
  obtain ⟨v1, r, rfl, h1, h⟩ := h.cons_inv
  obtain ⟨v2, r, rfl, h2, h⟩ := h.cons_inv
  obtain rfl := h.nil_inv
  obtain ⟨ss, ps, rfl, b1, b2, b3, b4⟩ := disk_fit h0
  obtain ⟨a, rfl, _⟩ := h1.one_inv.i64_inv
  obtain ⟨xs, rfl, hl, hr⟩ := h2.one_inv.sl_inv
  obtain ⟨li, rfl, hw⟩ := rowsT_fit hr
  rw [rowsT_len] at hl
  exact ⟨_, _, _, law7 0 ss ps a li b1 b2 b3 b4 (by omega) hw⟩
end Go.Ae.R3
