/- Intervals picked out: what lies ahead, what is needed. -/
import Derived.Test.YtbmpcjdfnainhaaD1M6
namespace Go.Ae.D1
set_option linter.unusedSimpArgs false
set_option linter.unusedVariables false
set_option maxRecDepth 10000
def resS (ws : List GIv) : Res := ⟨.sl 0 0 0 [] 0 ws.length, [⟨0, 4, false, false, rws GIv.enco ws⟩], []⟩
/-- Those of the first i that are picked. -/
def pk (p : GIv → Bool) (ws : List GIv) (i : Nat) : List GIv := (ws.take i).filter p
theorem pk_len (p : GIv → Bool) (ws : List GIv) (i : Nat) : (pk p ws i).length ≤ i := Nat.le_trans (List.length_filter_le _ _) (by simp; omega)
theorem pk_next {p : GIv → Bool} {ws : List GIv} {i : Nat} (h : i < ws.length) : pk p ws (i + 1) = if p (gi ws i) = true then pk p ws i ++ [gi ws i] else pk p ws i := by
  unfold pk
  rw [List.take_succ_eq_append_getElem h, List.filter_append, gi_at h]
  cases hc : p ws[i] <;> simp [hc, List.filter]
theorem pk_all (p : GIv → Bool) (ws : List GIv) : pk p ws ws.length = ws.filter p := by simp [pk]
set_option maxHeartbeats 8000000 in
theorem selected (k : Nat) (ws : List GIv) (v : Int) (f : Nat) (p : GIv → Bool) (hf : code.md f = .val) (hcl : ∀ k x, call code (k + 3) f [.agg (GIv.enc x), .rptr [.int .i64 v]] [] = some ⟨.bool (p x), [], []⟩) (hn : ws.length ≤ 1048576) (hs : ∀ x ∈ ws, x.Acting.length ≤ 1048576) :
    call code (k + 4) 50 [.rd false (rws GIv.enc ws), .fn f [.rptr [.int .i64 v]]] [] = some (resS (ws.filter p)) := by
  refine call_run rfl fn50 rfl ?_
  simp [F50]
  refine RunC_loop (fun i : Nat => ⟨tm 24 [(1, .fn f [.rptr [.int .i64 v]]), (5, .sl 0 65536 0 [] 0 (pk p ws i).length), (8, .rd false (rws GIv.enc ws)), (9, .int .i64 ws.length), (10, .int .i64 i)], [(0, some ⟨0, 4, false, false, []⟩), (65536, some ⟨0, 4, false, false, rws GIv.enco (pk p ws i)⟩)], []⟩)
    (fun i => i ≤ ws.length) (fun i => ws.length - i) 0 (Nat.zero_le _) (by simp; omega) (by simp [tm, pk]) fun i hi _ => ?_
  by_cases hlt : i < ws.length
  · have hsi := idx_succ' hlt (by omega)
    have hpl := pk_len p ws i
    have hpn := pk_next (p := p) hlt
    have hR : ∀ h : i < (rws GIv.enc ws).length, (rws GIv.enc ws)[i]'h = GIv.enc (gi ws i) := fun h => by rw [rws_get, gi_at hlt]
    have hRl : (rws GIv.enc ws).length = ws.length := rws_len _ _
    have hc := fun k => clone1 k (gi ws i) (by rw [gi_at hlt]; exact hs _ (List.getElem_mem hlt))
    have hq := fun k => hcl k (gi ws i)
    have hQl : (rws GIv.enco (pk p ws i)).length = (pk p ws i).length := rws_len _ _
    generalize rws GIv.enc ws = R at *
    generalize hxx : gi ws i = x at *
    obtain ⟨xf, xl, us, xm⟩ := x
    simp only [GIv.enc, aggI, blkI] at hc hR hq
    cases he : p ⟨xf, xl, us, xm⟩
    · rw [he] at hq hpn
      simp at hpn
      simp [tm, hlt, hRl, hR, hf, hq, hsi, evalW, storeM]
      exact ⟨i + 1, by omega, by omega, ⟨by rw [hpn], by simp⟩, by rw [hpn]⟩
    · rw [he] at hq hpn
      simp at hpn
      have happ : rws GIv.enco (pk p ws i) ++ [[.int .i64 xf, .int .i64 xl, .own true (rws encI us), .bool xm]] = rws GIv.enco (pk p ws (i + 1)) := by rw [hpn, rws_app]; rfl
      have hll : (pk p ws i).length + 1 = (pk p ws (i + 1)).length := by rw [hpn]; simp
      generalize hQ' : rws GIv.enco (pk p ws (i + 1)) = Q' at *
      generalize rws GIv.enco (pk p ws i) = Q at *
      generalize hL' : (pk p ws (i + 1)).length = L' at *
      generalize (pk p ws i).length = L at *
      simp [tm, hlt, hRl, hR, hf, hq, hsi, rcall45, hc, evalW, appM, appM2, moveCells, moveCell, storeM, source, hQl, happ]
      exact ⟨⟨by omega, by omega⟩, i + 1, by omega, by omega, ⟨by rw [hL', hll], by simp⟩, by rw [hQ']⟩
  · have : i = ws.length := by omega
    subst this
    have hQl : (rws GIv.enco (pk p ws ws.length)).length = (pk p ws ws.length).length := rws_len _ _
    rw [pk_all] at hQl
    simp [tm, pk_all, resS]
def aheadP (v : Int) (x : GIv) : Bool := decide (x.First < v)
def needP (v : Int) (x : GIv) : Bool := x.First == v || (x.May && decide (v ≤ x.First))
theorem closAhead (k : Nat) (x : GIv) (v : Int) : call code (k + 3) 51 [.agg (GIv.enc x), .rptr [.int .i64 v]] [] = some ⟨.bool (aheadP v x), [], []⟩ := by
  refine call_run rfl fn51 rfl ?_
  simp [F51, GIv.enc, evalW, aheadP]
theorem needs (k : Nat) (x : GIv) (v : Int) : call code (k + 1) 54 [.agg (GIv.enc x), .int .i64 v] [] = some ⟨.bool (needP v x), [], []⟩ := by
  refine call_run rfl fn54 rfl ?_
  obtain ⟨xf, xl, us, xm⟩ := x
  cases h1 : (xf == v) <;> cases xm <;> cases h3 : decide (v ≤ xf) <;> simp [F54, GIv.enc, evalW, needP, h1, h3]
theorem closNeed (k : Nat) (x : GIv) (v : Int) : call code (k + 3) 53 [.agg (GIv.enc x), .rptr [.int .i64 v]] [] = some ⟨.bool (needP v x), [], []⟩ := by
  refine call_run rfl fn53 rfl ?_
  have h := fun k => needs k x v
  simp only [GIv.enc] at h
  simp [F53, GIv.enc, evalW, rcall54, h]
/-- What both answer. -/
def outS (p : GIv → Bool) (ws : List GIv) : List GIv := if ivB ws = true then ws.filter p else []
theorem aheadOf (k : Nat) (ws : List GIv) (v : Int) (hn : ws.length ≤ 1048576) (hs : ∀ x ∈ ws, x.Acting.length ≤ 1048576) : call code (k + 5) 18 [.rd false (rws GIv.enc ws), .int .i64 v] [] = some (resS (outS (aheadP v) ws)) := by
  refine call_run rfl fn18 rfl ?_
  have h2 := fun k => intervalsOk k ws hn hs
  have h1 := fun k => selected k ws v 51 (aheadP v) rfl (fun k x => closAhead k x v) hn hs
  simp only [resS] at h1
  unfold outS
  cases c1 : ivB ws
  · rw [c1] at h2
    simp [F18, rcall44, h2, resS]
  · rw [c1] at h2
    have hl : (rws GIv.enco (ws.filter (aheadP v))).length = (ws.filter (aheadP v)).length := rws_len _ _
    simp [F18, rcall44, h2, rcall50, h1, resS]
theorem needOf (k : Nat) (ws : List GIv) (v : Int) (hn : ws.length ≤ 1048576) (hs : ∀ x ∈ ws, x.Acting.length ≤ 1048576) : call code (k + 5) 21 [.rd false (rws GIv.enc ws), .int .i64 v] [] = some (resS (outS (needP v) ws)) := by
  refine call_run rfl fn21 rfl ?_
  have h2 := fun k => intervalsOk k ws hn hs
  have h1 := fun k => selected k ws v 53 (needP v) rfl (fun k x => closNeed k x v) hn hs
  simp only [resS] at h1
  unfold outS
  cases c1 : ivB ws
  · rw [c1] at h2
    simp [F21, rcall44, h2, resS]
  · rw [c1] at h2
    simp [F21, rcall44, h2, rcall50, h1, resS]
set_option maxHeartbeats 8000000 in
theorem l13Ahead (k : Nat) (ws : List GIv) (v : Int) (hn : ws.length ≤ 1048576) (hs : ∀ x ∈ ws, x.Acting.length ≤ 1048576) :
    call code (k + 4) 49 [.rd false (rws GIv.enc ws), .int .i64 v] [] = some (resS (ws.filter (aheadP v))) := by
  refine call_run rfl fn49 rfl ?_
  simp [F49]
  refine RunC_loop (fun i : Nat => ⟨tm 30 [(0, .rd false (rws GIv.enc ws)), (1, .int .i64 v), (5, .sl 0 65536 0 [] 0 (pk (aheadP v) ws i).length), (6, .int .i64 i)], [(0, some ⟨0, 4, false, false, []⟩), (65536, some ⟨0, 4, false, false, rws GIv.enco (pk (aheadP v) ws i)⟩)], []⟩)
    (fun i => i ≤ ws.length) (fun i => ws.length - i) 0 (Nat.zero_le _) (by simp; omega) (by simp [tm, pk]) fun i hi _ => ?_
  by_cases hlt : i < ws.length
  · have hsi := idx_succ' hlt (by omega)
    have hpl := pk_len (aheadP v) ws i
    have hpn := pk_next (p := aheadP v) hlt
    have hR : ∀ h : i < (rws GIv.enc ws).length, (rws GIv.enc ws)[i]'h = GIv.enc (gi ws i) := fun h => by rw [rws_get, gi_at hlt]
    have hRl : (rws GIv.enc ws).length = ws.length := rws_len _ _
    have hc := fun k => own1 k (gi ws i) (by rw [gi_at hlt]; exact hs _ (List.getElem_mem hlt))
    have hQl : (rws GIv.enco (pk (aheadP v) ws i)).length = (pk (aheadP v) ws i).length := rws_len _ _
    generalize rws GIv.enc ws = R at *
    generalize hxx : gi ws i = x at *
    obtain ⟨xf, xl, us, xm⟩ := x
    simp only [GIv.enc, aggI, blkI] at hc hR
    cases he : aheadP v ⟨xf, xl, us, xm⟩
    · rw [he] at hpn
      simp at hpn
      have he' : decide (xf < v) = false := he
      simp [tm, hlt, hRl, hR, he', hsi, evalW, storeM]
      exact ⟨i + 1, by omega, by omega, ⟨by rw [hpn], by simp⟩, by rw [hpn]⟩
    · rw [he] at hpn
      simp at hpn
      have he' : decide (xf < v) = true := he
      have happ : rws GIv.enco (pk (aheadP v) ws i) ++ [[.int .i64 xf, .int .i64 xl, .own true (rws encI us), .bool xm]] = rws GIv.enco (pk (aheadP v) ws (i + 1)) := by rw [hpn, rws_app]; rfl
      have hll : (pk (aheadP v) ws i).length + 1 = (pk (aheadP v) ws (i + 1)).length := by rw [hpn]; simp
      generalize hQ' : rws GIv.enco (pk (aheadP v) ws (i + 1)) = Q' at *
      generalize rws GIv.enco (pk (aheadP v) ws i) = Q at *
      generalize hL' : (pk (aheadP v) ws (i + 1)).length = L' at *
      generalize (pk (aheadP v) ws i).length = L at *
      simp [tm, hlt, hRl, hR, he', hsi, rcall39, hc, evalW, appM, appM2, moveCells, moveCell, storeM, source, hQl, happ]
      exact ⟨⟨by omega, by omega⟩, i + 1, by omega, by omega, ⟨by rw [hL', hll], by simp⟩, by rw [hQ']⟩
  · have : i = ws.length := by omega
    subst this
    simp [tm, pk_all, resS]
theorem sAheadOf (k : Nat) (ws : List GIv) (v : Int) (hn : ws.length ≤ 1048576) (hs : ∀ x ∈ ws, x.Acting.length ≤ 1048576) : call code (k + 5) 17 [.rd false (rws GIv.enc ws), .int .i64 v] [] = some (resS (outS (aheadP v) ws)) := by
  refine call_run rfl fn17 rfl ?_
  have h2 := fun k => l13Ok k ws hn hs
  have h1 := fun k => l13Ahead k ws v hn hs
  simp only [resS] at h1
  unfold outS
  cases c1 : ivB ws
  · rw [c1] at h2
    simp [F17, rcall38, h2, resS]
  · rw [c1] at h2
    simp [F17, rcall38, h2, rcall49, h1, resS]
end Go.Ae.D1
namespace Go.Ae.D1
set_option linter.unusedSimpArgs false
set_option linter.unusedVariables false
set_option maxRecDepth 10000
set_option maxHeartbeats 8000000 in
theorem l13Need (k : Nat) (ws : List GIv) (v : Int) (hn : ws.length ≤ 1048576) (hs : ∀ x ∈ ws, x.Acting.length ≤ 1048576) :
    call code (k + 4) 52 [.rd false (rws GIv.enc ws), .int .i64 v] [] = some (resS (ws.filter (needP v))) := by
  refine call_run rfl fn52 rfl ?_
  simp [F52]
  refine RunC_loop (fun i : Nat => ⟨tm 46 [(0, .rd false (rws GIv.enc ws)), (1, .int .i64 v), (5, .sl 0 65536 0 [] 0 (pk (needP v) ws i).length), (6, .int .i64 i)], [(0, some ⟨0, 4, false, false, []⟩), (65536, some ⟨0, 4, false, false, rws GIv.enco (pk (needP v) ws i)⟩)], []⟩)
    (fun i => i ≤ ws.length) (fun i => ws.length - i) 0 (Nat.zero_le _) (by simp; omega) (by simp [tm, pk]) fun i hi _ => ?_
  by_cases hlt : i < ws.length
  · have hsi := idx_succ' hlt (by omega)
    have hpl := pk_len (needP v) ws i
    have hpn := pk_next (p := needP v) hlt
    have hR : ∀ h : i < (rws GIv.enc ws).length, (rws GIv.enc ws)[i]'h = GIv.enc (gi ws i) := fun h => by rw [rws_get, gi_at hlt]
    have hRl : (rws GIv.enc ws).length = ws.length := rws_len _ _
    have hc := fun k => own1 k (gi ws i) (by rw [gi_at hlt]; exact hs _ (List.getElem_mem hlt))
    have hQl : (rws GIv.enco (pk (needP v) ws i)).length = (pk (needP v) ws i).length := rws_len _ _
    generalize rws GIv.enc ws = R at *
    generalize hxx : gi ws i = x at *
    obtain ⟨xf, xl, us, xm⟩ := x
    simp only [GIv.enc, aggI, blkI] at hc hR
    have hneed : needP v ⟨xf, xl, us, xm⟩ = (xf == v || (xm && decide (v ≤ xf))) := rfl
    have hno : needP v ⟨xf, xl, us, xm⟩ = false → pk (needP v) ws (i + 1) = pk (needP v) ws i := fun h => by rw [hpn, h]; rfl
    have hyes : needP v ⟨xf, xl, us, xm⟩ = true → pk (needP v) ws (i + 1) = pk (needP v) ws i ++ [⟨xf, xl, us, xm⟩] := fun h => by rw [hpn, h]; rfl
    cases h1 : (xf == v)
    · cases xm
      · have hh := hno (by rw [hneed, h1]; rfl)
        simp [tm, hlt, hRl, hR, h1, hsi, evalW, storeM]
        exact ⟨i + 1, by omega, by omega, ⟨by rw [hh], by simp⟩, by rw [hh]⟩
      · cases h3 : decide (v ≤ xf)
        · have hh := hno (by rw [hneed, h1, h3]; rfl)
          simp [tm, hlt, hRl, hR, h1, h3, hsi, evalW, storeM]
          exact ⟨i + 1, by omega, by omega, ⟨by rw [hh], by simp⟩, by rw [hh]⟩
        · have hh := hyes (by rw [hneed, h1, h3]; rfl)
          have happ : rws GIv.enco (pk (needP v) ws i) ++ [[.int .i64 xf, .int .i64 xl, .own true (rws encI us), .bool true]] = rws GIv.enco (pk (needP v) ws (i + 1)) := by rw [hh, rws_app]; rfl
          have hll : (pk (needP v) ws i).length + 1 = (pk (needP v) ws (i + 1)).length := by rw [hh]; simp
          generalize hQ' : rws GIv.enco (pk (needP v) ws (i + 1)) = Q' at *
          generalize rws GIv.enco (pk (needP v) ws i) = Q at *
          generalize hL' : (pk (needP v) ws (i + 1)).length = L' at *
          generalize (pk (needP v) ws i).length = L at *
          simp [tm, hlt, hRl, hR, h1, h3, hsi, rcall39, hc, evalW, appM, appM2, moveCells, moveCell, storeM, source, hQl, happ]
          exact ⟨⟨by omega, by omega⟩, i + 1, by omega, by omega, ⟨by rw [hL', hll], by simp⟩, by rw [hQ']⟩
    · have hh := hyes (by rw [hneed, h1]; rfl)
      have happ : rws GIv.enco (pk (needP v) ws i) ++ [[.int .i64 xf, .int .i64 xl, .own true (rws encI us), .bool xm]] = rws GIv.enco (pk (needP v) ws (i + 1)) := by rw [hh, rws_app]; rfl
      have hll : (pk (needP v) ws i).length + 1 = (pk (needP v) ws (i + 1)).length := by rw [hh]; simp
      generalize hQ' : rws GIv.enco (pk (needP v) ws (i + 1)) = Q' at *
      generalize rws GIv.enco (pk (needP v) ws i) = Q at *
      generalize hL' : (pk (needP v) ws (i + 1)).length = L' at *
      generalize (pk (needP v) ws i).length = L at *
      simp [tm, hlt, hRl, hR, h1, hsi, rcall39, hc, evalW, appM, appM2, moveCells, moveCell, storeM, source, hQl, happ]
      exact ⟨⟨by omega, by omega⟩, i + 1, by omega, by omega, ⟨by rw [hL', hll], by simp⟩, by rw [hQ']⟩
  · have : i = ws.length := by omega
    subst this
    simp [tm, pk_all, resS]
theorem sNeedOf (k : Nat) (ws : List GIv) (v : Int) (hn : ws.length ≤ 1048576) (hs : ∀ x ∈ ws, x.Acting.length ≤ 1048576) : call code (k + 5) 20 [.rd false (rws GIv.enc ws), .int .i64 v] [] = some (resS (outS (needP v) ws)) := by
  refine call_run rfl fn20 rfl ?_
  have h2 := fun k => l13Ok k ws hn hs
  have h1 := fun k => l13Need k ws v hn hs
  simp only [resS] at h1
  unfold outS
  cases c1 : ivB ws
  · rw [c1] at h2
    simp [F20, rcall38, h2, resS]
  · rw [c1] at h2
    simp [F20, rcall38, h2, rcall52, h1, resS]
end Go.Ae.D1
