/- The law FnExactIntervalAt. -/
import Derived.Test.YtbmpcjdfnainhaaD1M5
namespace Go.Ae.D1
set_option linter.unusedSimpArgs false
set_option linter.unusedVariables false
theorem wsum_mem {ws : List GIv} {x : GIv} (h : x ∈ ws) : x.Acting.length ≤ wsum GIv.wt ws := by
  unfold wsum
  induction ws with
  | nil => cases h
  | cons y r ih =>
    simp only [List.map_cons, List.sum_cons]
    rcases List.mem_cons.1 h with rfl | h
    · show x.Acting.length ≤ x.Acting.length + _; omega
    · have := ih h; omega
theorem hpI_all {l : Heap} {S ver : Nat} {c : Int} {ws : List GIv} (h : l.set S (some ⟨ver, 4, false, false, rws GIv.enco ws⟩) = l) : hp l S (mkb ver c ws) ws.length = l.set S (some ⟨ver, 4, false, false, rws GIv.enco (mkl c ws)⟩) := by
  rw [hp_all (by rw [mkb, mkd_zero]; exact h), mkb, mkd_all]
theorem tkO (ws : List GIv) : (rws GIv.enco ws).take ws.length = rws GIv.enco ws := rws_takeLen GIv.enco ws
theorem tkO2 {ws : List GIv} {n : Nat} (h : ws.length = n) : (rws GIv.enco ws).take n = rws GIv.enco ws := by subst h; exact tkO ws
set_option maxRecDepth 100000 in
set_option maxHeartbeats 64000000 in
theorem law3 (n : Nat) (ws : List GIv) (v : Int) (b1 : ws.length ≤ 140737488351232) (b2 : ∀ x ∈ ws, x.ok) :
    call code (n + 12) 3 [.rd false (rws GIv.enc ws), .int .i64 v] [] = some ⟨.bool true, [], []⟩ := by
  refine call_run rfl fn3 rfl ?_
  have z1 := fun k => szIntervalS k 1048576 ws (by omega) b1 b2
  generalize hw : ws.length + wsum GIv.wt ws = wv at *
  cases g1 : decide (szV 1048576 wv < 0)
  rotate_left
  · obtain ⟨_, e1⟩ := szV_neg g1 (by omega)
    rw [e1] at z1
    simp [F3, rcall8, z1]
  obtain ⟨a1, e1⟩ := szV_pos g1 (by omega)
  rw [e1] at z1 g1
  have a3 : ws.length ≤ 1048576 := by omega
  have hs : ∀ x ∈ ws, x.Acting.length ≤ 1048576 := fun x hx => by have := wsum_mem hx; omega
  have hi := fun k => intervalAt k ws v a3 hs
  have hr := fun k => sIntervalAt k ws v a3 hs
  have hxl : (foundI v ws).Acting.length ≤ 1048576 := by
    unfold foundI
    split
    · unfold gi
      rw [List.getD_eq_getElem?_getD]
      cases he : ws[(fndF v ws 0).toNat]? with
      | none => simp [GIv.zero]
      | some y => exact hs _ (List.mem_of_getElem? he)
    · simp [GIv.zero]
  generalize foundI v ws = x at *
  generalize foundB v ws = fb at *
  have t1 := fun k => toIntervalS k ws a3 hs
  have q1 := fun k => eqIntervalS k ws (by omega) (fun x hx => by have := hs x hx; omega)
  obtain ⟨xf, xl, us, xm⟩ := x
  simp only [resI, aggI, blkI] at hi hr hxl
  have q2 := fun k => eqInterval k xf xl us xm (by omega)
  have mI := fun k lv E S hlv hg => markIntervalS k lv E S 0 ws 1 (by omega) (by omega) (by omega) hlv hg
  have m2 := fun k lv E S hlv hg => markInterval k lv E xf xl us xm S 1 (by omega) hlv (by omega) hg
  have hh := fun k => heldInterval k xf xl us.length xm 1 (by omega) (by omega)
  have hp1 := fun (l : Heap) (S : Nat) (hh : l.set S (some ⟨0, 4, false, false, rws GIv.enco ws⟩) = l) => hpI_all (l := l) (S := S) (ver := 0) (c := 1) (ws := ws) hh
  have hp3 := fun (l : Heap) (S : Nat) (hh : l.set S (some ⟨0, 1, false, true, rws encI us⟩) = l) => hpm_all (enc := encI) (sz := 1) (mk := mkI) (l := l) (S := S) (c := 1) (ws := us) hh
  have k1 := tkO ws
  have k2 := deep_own ws
  have k3 : (rws encI us).take us.length = rws encI us := rws_takeLen encI us
  have k4 : (rws encI (marks mkI 1 us.length)).take us.length = rws encI (marks mkI 1 us.length) := List.take_of_length_le (by simp)
  have hrl := rws_len (enc := GIv.enco) ws
  have hrl2 := rws_len (enc := GIv.enco) (mkl 1 ws)
  rw [mkl_len] at hrl2
  have hm := nxtM_bound 1 ws
  have d1 : decide (nxtM 1 ws < 0) = false := by simp; omega
  have d2 : decide (1 + (us.length : Int) < 0) = false := by simp; omega
  simp (maxSteps := 20000000) [F3, rcall8, z1, g1, rcall10, t1, rcall9, hr, rcall11, hi, rcall12, q2, rcall13, q1, rcall14, mI, rcall15, m2, rcall16, hh, hp1, hp3, k1, k2, k3, k4, d1, d2, hrl, hrl2, evalW]
theorem lawIntervalAt (avs : List AV) (h : PFitsAll [(false, [.sl 48 [.int .i64, .int .i64, .sl 8 [.int .i64], .bool]]), (false, [.int .i64])] avs) : ∃ n bs e, call code n 3 avs [] = some ⟨.bool true, bs, e⟩ := by
  obtain ⟨v0, r, rfl, h0, h⟩ := h.cons_inv
  obtain ⟨v1, r, rfl, h1, h⟩ := h.cons_inv
  obtain rfl := h.nil_inv
  obtain ⟨xs, rfl, hl, hr⟩ := h0.one_inv.sl_inv
  obtain ⟨s, rfl, _⟩ := h1.one_inv.i64_inv
  obtain ⟨ws, rfl, hz⟩ := fitIv hr
  rw [rws_len] at hl
  exact ⟨_, _, _, law3 0 ws s (by omega) hz⟩
end Go.Ae.D1
