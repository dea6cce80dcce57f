/- Intervals that are good, the program's and the reference's. -/
import Derived.Test.YtbmpcjdfnainhaaD1M3
namespace Go.Ae.D1
set_option linter.unusedSimpArgs false
set_option linter.unusedVariables false
set_option maxRecDepth 10000
def gi (ws : List GIv) (i : Nat) : GIv := ws.getD i GIv.zero
theorem gi_at {ws : List GIv} {i : Nat} (h : i < ws.length) : gi ws i = ws[i] := by rw [gi, List.getD_eq_getElem?_getD, List.getElem?_eq_getElem h]; rfl
def nxE (ws : List GIv) (i : Nat) : Int := if i = 0 then 1 else (gi ws (i - 1)).Last + 1
def ivG (ws : List GIv) (i : Nat) : Bool := (gi ws i).First == nxE ws i && inB (gi ws i).Last (gi ws i).First 60 && actB (gi ws i).Acting && (gi ws i).Acting.length == (gi ws 0).Acting.length
def ivB (ws : List GIv) : Bool := (List.range ws.length).all (ivG ws) && decide (ws.length ≤ 60)
theorem nxE_bound {ws : List GIv} {i : Nat} (h : ∀ j, j < i → ivG ws j = true) : 1 ≤ nxE ws i ∧ nxE ws i ≤ 61 := by
  induction i with
  | zero => simp [nxE]
  | succ i ih =>
    have h1 := ih fun j hj => h j (by omega)
    have h2 := h i (by omega)
    simp [ivG, inB] at h2
    simp only [nxE, Nat.add_one_ne_zero, if_false, Nat.add_sub_cancel]
    omega
set_option maxHeartbeats 8000000 in
theorem intervalsOk (k : Nat) (ws : List GIv) (hn : ws.length ≤ 1048576) (hs : ∀ x ∈ ws, x.Acting.length ≤ 1048576) : call code (k + 4) 44 [.rd false (rws GIv.enc ws)] [] = some ⟨.bool (ivB ws), [], []⟩ := by
  refine call_run rfl fn44 rfl ?_
  have hbt := fun k a b c => between k a b c
  simp [F44]
  refine RunC_loop (fun i : Nat => ⟨tm 48 [(0, .rd false (rws GIv.enc ws)), (3, .int .i64 (nxE ws i)), (6, .rd false (rws GIv.enc ws)), (7, .int .i64 ws.length), (8, .int .i64 i)], [], []⟩)
    (fun i => i ≤ ws.length ∧ ∀ j, j < i → ivG ws j = true) (fun i => ws.length - i) 0 ⟨Nat.zero_le _, fun j h => absurd h (by omega)⟩ (by simp; omega) (by simp [tm, nxE]) fun i hi _ => ?_
  obtain ⟨hi, hx⟩ := hi
  by_cases hlt : i < ws.length
  · have hsi := idx_succ' hlt (by omega)
    have hnb := nxE_bound hx
    have h0 : 0 < ws.length := by omega
    have hao := fun k => actingOk k (gi ws i).Acting (by rw [gi_at hlt]; have := hs _ (List.getElem_mem hlt); omega)
    have hgd : ivG ws i = ((gi ws i).First == nxE ws i && inB (gi ws i).Last (gi ws i).First 60 && actB (gi ws i).Acting && (gi ws i).Acting.length == (gi ws 0).Acting.length) := rfl
    have hbad : ivG ws i = false → ivB ws = false := fun h => by unfold ivB; rw [all_false hlt h]; rfl
    have hgood : ivG ws i = true → ∀ j, j < i + 1 → ivG ws j = true := fun h j hj => by
      rcases Nat.lt_succ_iff_lt_or_eq.1 hj with h1 | rfl
      · exact hx j h1
      · exact h
    have hnx : nxE ws (i + 1) = (gi ws i).Last + 1 := by simp [nxE]
    have hR : ∀ h : i < (rws GIv.enc ws).length, (rws GIv.enc ws)[i]'h = GIv.enc (gi ws i) := fun h => by rw [rws_get, gi_at hlt]
    have hR0 : ∀ h : 0 < (rws GIv.enc ws).length, (rws GIv.enc ws)[0]'h = GIv.enc (gi ws 0) := fun h => by rw [rws_get, gi_at h0]
    have hRl : (rws GIv.enc ws).length = ws.length := rws_len _ _
    have h0' : (0 : Int) < ws.length := by omega
    generalize rws GIv.enc ws = R at *
    generalize gi ws i = s at *
    generalize gi ws 0 = s0 at *
    generalize hnx' : nxE ws (i + 1) = nx' at *
    generalize nxE ws i = nx at *
    obtain ⟨f, la, us, m⟩ := s
    obtain ⟨f0, la0, us0, m0⟩ := s0
    simp only [GIv.enc] at hR hR0 hnx hgd hao
    cases c1 : (f == nx)
    · rw [c1] at hgd
      have hb := hbad (by simpa using hgd)
      have c1n : (f != nx) = true := by simp [bne, c1]
      simp [tm, hlt, hRl, hR, hR0, c1n, hb]
    have c1n : (f != nx) = false := by simp [bne, c1]
    cases c2 : inB la f 60
    · rw [c1, c2] at hgd
      have hb := hbad (by simpa using hgd)
      simp [tm, hlt, hRl, hR, hR0, c1n, rcall43, hbt, c2, hb]
    cases c3 : actB us
    · rw [c1, c2, c3] at hgd
      have hb := hbad (by simpa using hgd)
      simp [tm, hlt, hRl, hR, hR0, c1n, rcall43, hbt, c2, rcall84, hao, c3, hb]
    cases c4 : (us.length == us0.length)
    · rw [c1, c2, c3, c4] at hgd
      have hb := hbad (by simpa using hgd)
      have c5 : ((us.length : Int) != (us0.length : Int)) = true := by simp at c4 ⊢; omega
      simp [tm, hlt, h0, h0', hRl, hR, hR0, c1n, rcall43, hbt, c2, rcall84, hao, c3, c5, hb]
    · rw [c1, c2, c3, c4] at hgd
      have hg := hgood (by simpa using hgd)
      have c5 : ((us.length : Int) != (us0.length : Int)) = false := by simp at c4 ⊢; omega
      have hlast : IntKind.wrap .i64 (la + 1) = nx' := by
        simp [inB] at c2
        simp at c1
        rw [wrap64 ⟨by omega, by omega⟩, hnx]
      simp [tm, hlt, h0, h0', hRl, hR, hR0, c1n, rcall43, hbt, c2, rcall84, hao, c3, c5, hsi, hlast]
      exact ⟨i + 1, ⟨by omega, hg⟩, by omega, hnx'.symm, by simp⟩
  · have : i = ws.length := by omega
    subst this
    have : ivB ws = decide (ws.length ≤ 60) := by unfold ivB; rw [all_true hx]; rfl
    have h60 : decide ((ws.length : Int) ≤ 60) = decide (ws.length ≤ 60) := by simp; omega
    simp [tm, this, h60]
set_option maxHeartbeats 8000000 in
theorem l13Ok (k : Nat) (ws : List GIv) (hn : ws.length ≤ 1048576) (hs : ∀ x ∈ ws, x.Acting.length ≤ 1048576) : call code (k + 4) 38 [.rd false (rws GIv.enc ws)] [] = some ⟨.bool (ivB ws), [], []⟩ := by
  refine call_run rfl fn38 rfl ?_
  by_cases h6 : 60 < ws.length
  · have hd : decide ((60 : Int) < (ws.length : Int)) = true := by simp; omega
    have hf : ivB ws = false := by unfold ivB; rw [show decide (ws.length ≤ 60) = false by simp; omega]; simp
    simp [F38, hd, hf]
  have hd : decide ((60 : Int) < (ws.length : Int)) = false := by simp; omega
  have hbt := fun k a b c => l00In k a b c
  simp [F38, hd]
  refine RunC_loop (fun i : Nat => ⟨tm 51 [(0, .rd false (rws GIv.enc ws)), (3, .int .i64 (nxE ws i)), (4, .int .i64 i)], [], []⟩)
    (fun i => i ≤ ws.length ∧ ∀ j, j < i → ivG ws j = true) (fun i => ws.length - i) 0 ⟨Nat.zero_le _, fun j h => absurd h (by omega)⟩ (by simp; omega) (by simp [tm, nxE]) fun i hi _ => ?_
  obtain ⟨hi, hx⟩ := hi
  by_cases hlt : i < ws.length
  · have hsi := idx_succ' hlt (by omega)
    have hnb := nxE_bound hx
    have h0 : 0 < ws.length := by omega
    have hao := fun k => l12Ok (k + 1) (gi ws i).Acting (by rw [gi_at hlt]; have := hs _ (List.getElem_mem hlt); omega)
    have hgd : ivG ws i = ((gi ws i).First == nxE ws i && inB (gi ws i).Last (gi ws i).First 60 && actB (gi ws i).Acting && (gi ws i).Acting.length == (gi ws 0).Acting.length) := rfl
    have hbad : ivG ws i = false → ivB ws = false := fun h => by unfold ivB; rw [all_false hlt h]; rfl
    have hgood : ivG ws i = true → ∀ j, j < i + 1 → ivG ws j = true := fun h j hj => by
      rcases Nat.lt_succ_iff_lt_or_eq.1 hj with h1 | rfl
      · exact hx j h1
      · exact h
    have hnx : nxE ws (i + 1) = (gi ws i).Last + 1 := by simp [nxE]
    have hR : ∀ h : i < (rws GIv.enc ws).length, (rws GIv.enc ws)[i]'h = GIv.enc (gi ws i) := fun h => by rw [rws_get, gi_at hlt]
    have hR0 : ∀ h : 0 < (rws GIv.enc ws).length, (rws GIv.enc ws)[0]'h = GIv.enc (gi ws 0) := fun h => by rw [rws_get, gi_at h0]
    have hRl : (rws GIv.enc ws).length = ws.length := rws_len _ _
    have h0' : (0 : Int) < ws.length := by omega
    generalize rws GIv.enc ws = R at *
    generalize gi ws i = s at *
    generalize gi ws 0 = s0 at *
    generalize hnx' : nxE ws (i + 1) = nx' at *
    generalize nxE ws i = nx at *
    obtain ⟨f, la, us, m⟩ := s
    obtain ⟨f0, la0, us0, m0⟩ := s0
    simp only [GIv.enc] at hR hR0 hnx hgd hao
    cases c1 : (f == nx)
    · rw [c1] at hgd
      have hb := hbad (by simpa using hgd)
      have c1n : (f != nx) = true := by simp [bne, c1]
      simp [tm, hlt, hRl, hR, hR0, c1n, hb]
    have c1n : (f != nx) = false := by simp [bne, c1]
    cases c2 : inB la f 60
    · rw [c1, c2] at hgd
      have hb := hbad (by simpa using hgd)
      simp [tm, hlt, hRl, hR, hR0, c1n, rcall58, hbt, c2, hb]
    cases c3 : actB us
    · rw [c1, c2, c3] at hgd
      have hb := hbad (by simpa using hgd)
      simp [tm, hlt, hRl, hR, hR0, c1n, rcall58, hbt, c2, rcall81, hao, c3, hb]
    cases c4 : (us.length == us0.length)
    · rw [c1, c2, c3, c4] at hgd
      have hb := hbad (by simpa using hgd)
      have c5 : ((us.length : Int) != (us0.length : Int)) = true := by simp at c4 ⊢; omega
      simp [tm, hlt, h0, h0', hRl, hR, hR0, c1n, rcall58, hbt, c2, rcall81, hao, c3, c5, hb]
    · rw [c1, c2, c3, c4] at hgd
      have hg := hgood (by simpa using hgd)
      have c5 : ((us.length : Int) != (us0.length : Int)) = false := by simp at c4 ⊢; omega
      have hlast : IntKind.wrap .i64 (la + 1) = nx' := by
        simp [inB] at c2
        simp at c1
        rw [wrap64 ⟨by omega, by omega⟩, hnx]
      simp [tm, hlt, h0, h0', hRl, hR, hR0, c1n, rcall58, hbt, c2, rcall81, hao, c3, c5, hsi, hlast]
      exact ⟨i + 1, ⟨by omega, hg⟩, by omega, hnx'.symm, by simp⟩
  · have : i = ws.length := by omega
    subst this
    have : ivB ws = true := by unfold ivB; rw [all_true hx, show decide (ws.length ≤ 60) = true by simp; omega]; rfl
    simp [tm, this]
end Go.Ae.D1
