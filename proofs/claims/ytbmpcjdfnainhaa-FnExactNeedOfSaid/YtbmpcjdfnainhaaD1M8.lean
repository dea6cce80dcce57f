/- The laws FnExactAheadOf and FnExactNeedOf. -/
import Derived.Test.YtbmpcjdfnainhaaD1M7
namespace Go.Ae.D1
set_option linter.unusedSimpArgs false
set_option linter.unusedVariables false
theorem outS_sub {p : GIv → Bool} {ws : List GIv} : ∀ x ∈ outS p ws, x ∈ ws := fun x h => by
  unfold outS at h
  split at h
  · exact (List.mem_filter.1 h).1
  · cases h
theorem outS_len (p : GIv → Bool) (ws : List GIv) : (outS p ws).length ≤ ws.length := by
  unfold outS
  split
  · exact List.length_filter_le _ _
  · simp
theorem outS_wsum (p : GIv → Bool) (ws : List GIv) : wsum GIv.wt (outS p ws) ≤ wsum GIv.wt ws := by
  unfold outS
  split
  · rename_i hc
    clear hc
    unfold wsum
    induction ws with
    | nil => simp
    | cons x r ih =>
      simp only [List.filter_cons]
      split
      · simp only [List.map_cons, List.sum_cons]; omega
      · simp only [List.map_cons, List.sum_cons]; omega
  · simp [wsum]
set_option maxRecDepth 100000 in
set_option maxHeartbeats 64000000 in
theorem law4 (n : Nat) (ws : List GIv) (v : Int) (b1 : ws.length ≤ 140737488351232) (b2 : ∀ x ∈ ws, x.ok) :
    call code (n + 12) 4 [.rd false (rws GIv.enc ws), .int .i64 v] [] = some ⟨.bool true, [], []⟩ := by
  refine call_run rfl fn4 rfl ?_
  have z1 := fun k => szIntervalS k 1048576 ws (by omega) b1 b2
  generalize hw : ws.length + wsum GIv.wt ws = wv at *
  cases g1 : decide (szV 1048576 wv < 0)
  rotate_left
  · obtain ⟨_, e1⟩ := szV_neg g1 (by omega)
    rw [e1] at z1
    simp [F4, rcall8, z1]
  obtain ⟨a1, e1⟩ := szV_pos g1 (by omega)
  rw [e1] at z1 g1
  have a3 : ws.length ≤ 1048576 := by omega
  have hs : ∀ x ∈ ws, x.Acting.length ≤ 1048576 := fun x hx => by have := wsum_mem hx; omega
  have hi := fun k => aheadOf k ws v a3 hs
  have hr := fun k => sAheadOf k ws v a3 hs
  have ol := outS_len (aheadP v) ws
  have ow := outS_wsum (aheadP v) ws
  have os : ∀ x ∈ outS (aheadP v) ws, x.Acting.length ≤ 1048576 := fun x hx => hs x (outS_sub x hx)
  generalize outS (aheadP v) ws = us at *
  have t1 := fun k => toIntervalS k ws a3 hs
  have q1 := fun k => eqIntervalS k ws (by omega) (fun x hx => by have := hs x hx; omega)
  have q2 := fun k => eqIntervalS k us (by omega) (fun x hx => by have := os x hx; omega)
  simp only [resS] at hi hr
  have mI := fun k lv E S hlv hg => markIntervalS k lv E S 0 ws 1 (by omega) (by omega) (by omega) hlv hg
  have mU := fun k lv E S hlv hg => markIntervalS k lv E S 0 us 1 (by omega) (by omega) (by omega) hlv hg
  have hh := fun k => heldIntervalS k us 1 (by omega) (by omega) (by omega)
  have hp1 := fun (l : Heap) (S : Nat) (hh : l.set S (some ⟨0, 4, false, false, rws GIv.enco ws⟩) = l) => hpI_all (l := l) (S := S) (ver := 0) (c := 1) (ws := ws) hh
  have hp2 := fun (l : Heap) (S : Nat) (hh : l.set S (some ⟨0, 4, false, false, rws GIv.enco us⟩) = l) => hpI_all (l := l) (S := S) (ver := 0) (c := 1) (ws := us) hh
  have k1 := tkO ws
  have k2 := deep_own ws
  have k3 := tkO us
  have k4 := deep_own us
  have k5 := deep_own (mkl 1 us)
  have k6 := tkO2 (mkl_len 1 us)
  have hrl := rws_len (enc := GIv.enco) ws
  have hrl2 := rws_len (enc := GIv.enco) us
  have hrl3 := rws_len (enc := GIv.enco) (mkl 1 us)
  rw [mkl_len] at hrl3
  have hm := nxtM_bound 1 ws
  have hm2 := nxtM_bound 1 us
  have d1 : decide (nxtM 1 ws < 0) = false := by simp; omega
  have d2 : decide (nxtM 1 us < 0) = false := by simp; omega
  simp (maxSteps := 20000000) [F4, rcall8, z1, g1, rcall10, t1, rcall17, hr, rcall18, hi, rcall13, q1, q2, rcall14, mI, mU, rcall19, hh, hp1, hp2, k1, k2, k3, k4, k5, k6, d1, d2, hrl, hrl2, hrl3, evalW]
theorem lawAheadOf (avs : List AV) (h : PFitsAll [(false, [.sl 48 [.int .i64, .int .i64, .sl 8 [.int .i64], .bool]]), (false, [.int .i64])] avs) : ∃ n bs e, call code n 4 avs [] = some ⟨.bool true, bs, e⟩ := by
  obtain ⟨v0, r, rfl, h0, h⟩ := h.cons_inv
  obtain ⟨v1, r, rfl, h1, h⟩ := h.cons_inv
  obtain rfl := h.nil_inv
  obtain ⟨xs, rfl, hl, hr⟩ := h0.one_inv.sl_inv
  obtain ⟨s, rfl, _⟩ := h1.one_inv.i64_inv
  obtain ⟨ws, rfl, hz⟩ := fitIv hr
  rw [rws_len] at hl
  exact ⟨_, _, _, law4 0 ws s (by omega) hz⟩
set_option maxRecDepth 100000 in
set_option maxHeartbeats 64000000 in
theorem law5 (n : Nat) (ws : List GIv) (v : Int) (b1 : ws.length ≤ 140737488351232) (b2 : ∀ x ∈ ws, x.ok) :
    call code (n + 12) 5 [.rd false (rws GIv.enc ws), .int .i64 v] [] = some ⟨.bool true, [], []⟩ := by
  refine call_run rfl fn5 rfl ?_
  have z1 := fun k => szIntervalS k 1048576 ws (by omega) b1 b2
  generalize hw : ws.length + wsum GIv.wt ws = wv at *
  cases g1 : decide (szV 1048576 wv < 0)
  rotate_left
  · obtain ⟨_, e1⟩ := szV_neg g1 (by omega)
    rw [e1] at z1
    simp [F5, rcall8, z1]
  obtain ⟨a1, e1⟩ := szV_pos g1 (by omega)
  rw [e1] at z1 g1
  have a3 : ws.length ≤ 1048576 := by omega
  have hs : ∀ x ∈ ws, x.Acting.length ≤ 1048576 := fun x hx => by have := wsum_mem hx; omega
  have hi := fun k => needOf k ws v a3 hs
  have hr := fun k => sNeedOf k ws v a3 hs
  have ol := outS_len (needP v) ws
  have ow := outS_wsum (needP v) ws
  have os : ∀ x ∈ outS (needP v) ws, x.Acting.length ≤ 1048576 := fun x hx => hs x (outS_sub x hx)
  generalize outS (needP v) ws = us at *
  have t1 := fun k => toIntervalS k ws a3 hs
  have q1 := fun k => eqIntervalS k ws (by omega) (fun x hx => by have := hs x hx; omega)
  have q2 := fun k => eqIntervalS k us (by omega) (fun x hx => by have := os x hx; omega)
  simp only [resS] at hi hr
  have mI := fun k lv E S hlv hg => markIntervalS k lv E S 0 ws 1 (by omega) (by omega) (by omega) hlv hg
  have mU := fun k lv E S hlv hg => markIntervalS k lv E S 0 us 1 (by omega) (by omega) (by omega) hlv hg
  have hh := fun k => heldIntervalS k us 1 (by omega) (by omega) (by omega)
  have hp1 := fun (l : Heap) (S : Nat) (hh : l.set S (some ⟨0, 4, false, false, rws GIv.enco ws⟩) = l) => hpI_all (l := l) (S := S) (ver := 0) (c := 1) (ws := ws) hh
  have hp2 := fun (l : Heap) (S : Nat) (hh : l.set S (some ⟨0, 4, false, false, rws GIv.enco us⟩) = l) => hpI_all (l := l) (S := S) (ver := 0) (c := 1) (ws := us) hh
  have k1 := tkO ws
  have k2 := deep_own ws
  have k3 := tkO us
  have k4 := deep_own us
  have k5 := deep_own (mkl 1 us)
  have k6 := tkO2 (mkl_len 1 us)
  have hrl := rws_len (enc := GIv.enco) ws
  have hrl2 := rws_len (enc := GIv.enco) us
  have hrl3 := rws_len (enc := GIv.enco) (mkl 1 us)
  rw [mkl_len] at hrl3
  have hm := nxtM_bound 1 ws
  have hm2 := nxtM_bound 1 us
  have d1 : decide (nxtM 1 ws < 0) = false := by simp; omega
  have d2 : decide (nxtM 1 us < 0) = false := by simp; omega
  simp (maxSteps := 20000000) [F5, rcall8, z1, g1, rcall10, t1, rcall20, hr, rcall21, hi, rcall13, q1, q2, rcall14, mI, mU, rcall19, hh, hp1, hp2, k1, k2, k3, k4, k5, k6, d1, d2, hrl, hrl2, hrl3, evalW]
theorem lawNeedOf (avs : List AV) (h : PFitsAll [(false, [.sl 48 [.int .i64, .int .i64, .sl 8 [.int .i64], .bool]]), (false, [.int .i64])] avs) : ∃ n bs e, call code n 5 avs [] = some ⟨.bool true, bs, e⟩ := by
  obtain ⟨v0, r, rfl, h0, h⟩ := h.cons_inv
  obtain ⟨v1, r, rfl, h1, h⟩ := h.cons_inv
  obtain rfl := h.nil_inv
  obtain ⟨xs, rfl, hl, hr⟩ := h0.one_inv.sl_inv
  obtain ⟨s, rfl, _⟩ := h1.one_inv.i64_inv
  obtain ⟨ws, rfl, hz⟩ := fitIv hr
  rw [rws_len] at hl
  exact ⟨_, _, _, law5 0 ws s (by omega) hz⟩
end Go.Ae.D1
