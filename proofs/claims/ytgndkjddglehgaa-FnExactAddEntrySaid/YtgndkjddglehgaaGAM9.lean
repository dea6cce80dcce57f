/- The law FnExactAddEntry. -/
import Derived.Test.YtgndkjddglehgaaGAM8
import Derived.Test.YtgndkjddglehgaaGAM7
namespace Go.Ae.GA
set_option linter.unusedSimpArgs false
set_option linter.unusedVariables false
set_option maxRecDepth 100000 in
set_option maxHeartbeats 200000000 in
theorem law4 (n : Nat) (a0 a1 a2 a3 a4 a5 : Int) (ah : List GHead) (al : List GLast) (ae : List GEntry) (a9 a10 : Int) (ac : List GChunk) (e : GEntry) (x1 : ah.length ≤ 140737488351232) (x2 : ∀ x ∈ ah, x.ok) (x3 : al.length ≤ 140737488351232) (x5 : ae.length ≤ 140737488351232) (x6 : ∀ x ∈ ae, x.ok) (x7 : ac.length ≤ 140737488351232) (x8 : ∀ x ∈ ac, x.ok) (y : e.ok) :
    call code (n + 12) 4 [psV a0 a1 a2 a3 a4 a5 ah al ae a9 a10 ac, .agg (GEntry.enc e)] [] = some ⟨.bool true, [], []⟩ := by
  refine call_run rfl fn4 rfl ?_
  have z1 := fun k => szPgState k 1048576 a0 a1 a2 a3 a4 a5 ah al ae a9 a10 ac (by omega) x1 x2 x3 x5 x6 x7 x8
  cases g1 : decide (szV 1048576 ((ah.length + wsum GHead.wt ah) + al.length + (ae.length + wsum GEntry.wt ae) + (ac.length + wsum GChunk.wt ac)) < 0)
  rotate_left
  · obtain ⟨_, e1⟩ := szV_neg g1 (by omega)
    rw [e1] at z1
    unfold psV
    simp only [GEntry.enc]
    simp [F4, rcall5, z1]
  obtain ⟨a1', e1⟩ := szV_pos g1 (by omega)
  rw [e1] at z1 g1
  have z2 := fun k => szEntry k (1048576 - ((((ah.length + wsum GHead.wt ah) + al.length + (ae.length + wsum GEntry.wt ae) + (ac.length + wsum GChunk.wt ac)) : Nat) : Int)) e (by omega) y
  have fa : Few ah al ae ac := few_of (by omega)
  generalize ((ah.length + wsum GHead.wt ah) + al.length + (ae.length + wsum GEntry.wt ae) + (ac.length + wsum GChunk.wt ac)) = wa at *
  cases g2 : decide (szV (1048576 - (wa : Int)) e.wt < 0)
  rotate_left
  · obtain ⟨_, e2⟩ := szV_neg g2 (by omega)
    rw [e2] at z2
    unfold psV
    simp only [GEntry.enc] at *
    simp [F4, rcall5, z1, g1, rcall12, z2]
  obtain ⟨a2', e2⟩ := szV_pos g2 (by omega)
  rw [e2] at z2 g2
  have fe : e.Name.size ≤ 1048576 := by have : e.Name.size ≤ e.wt := (by unfold GEntry.wt; omega); omega
  generalize e.wt = wb at *
  obtain ⟨r0, r1, r2, r3, r4, r5, rh, rl, re, r9, r10, rc, c, hi, hs, fr⟩ := addEntrys a0 a1 a2 a3 a4 a5 ah al ae a9 a10 ac e fa fe
  have bA1 := fa.h
  have bA2 := fa.l
  have bA3 := fa.e
  have bA4 := fa.c
  have tA := fun k => toPgState k a0 a1 a2 a3 a4 a5 ah al ae a9 a10 ac (by omega) (by omega) (by omega) (by omega)
  have eA := fun k => eqPgState k a0 a1 a2 a3 a4 a5 ah al ae a9 a10 ac (by omega) (by omega) (by omega) (by omega)
  have mA := fun k lv E S1 S2 S3 S4 hlv ga gb gc gd n1 n2 n3 n4 n5 n6 => markPgState k lv E a0 a1 a2 a3 a4 a5 ah al ae a9 a10 ac S1 S2 S3 S4 1 (by omega) hlv (by omega) (by omega) (by omega) (by omega) ga gb gc gd n1 n2 n3 n4 n5 n6
  have kAh := tkE (enc := GHead.enc) (l := ah) rfl
  have lAh := rws_len (enc := GHead.enc) ah
  have pAh := fun (c : Int) (l : Heap) (S : Nat) (hh : l.set S (some ⟨0, 5, false, true, rws GHead.enc ah⟩) = l) => hpm_all (enc := GHead.enc) (sz := 5) (mk := GHead.mkAt) (l := l) (S := S) (c := c) (ws := ah) hh
  have kAl := tkE (enc := GLast.enc) (l := al) rfl
  have lAl := rws_len (enc := GLast.enc) al
  have pAl := fun (c : Int) (l : Heap) (S : Nat) (hh : l.set S (some ⟨0, 4, false, true, rws GLast.enc al⟩) = l) => hpm_all (enc := GLast.enc) (sz := 4) (mk := GLast.mkAt) (l := l) (S := S) (c := c) (ws := al) hh
  have kAe := tkE (enc := GEntry.enc) (l := ae) rfl
  have lAe := rws_len (enc := GEntry.enc) ae
  have pAe := fun (c : Int) (l : Heap) (S : Nat) (hh : l.set S (some ⟨0, 10, false, true, rws GEntry.enc ae⟩) = l) => hpm_all (enc := GEntry.enc) (sz := 10) (mk := GEntry.mkAt) (l := l) (S := S) (c := c) (ws := ae) hh
  have kAc := tkE (enc := GChunk.enc) (l := ac) rfl
  have lAc := rws_len (enc := GChunk.enc) ac
  have pAc := fun (c : Int) (l : Heap) (S : Nat) (hh : l.set S (some ⟨0, 6, false, true, rws GChunk.enc ac⟩) = l) => hpm_all (enc := GChunk.enc) (sz := 6) (mk := GChunk.mkAt) (l := l) (S := S) (c := c) (ws := ac) hh
  have bR1 := fr.h
  have bR2 := fr.l
  have bR3 := fr.e
  have bR4 := fr.c
  have eR := fun k => eqPgState k r0 r1 r2 r3 r4 r5 rh rl re r9 r10 rc (by omega) (by omega) (by omega) (by omega)
  have mR := fun k lv E S1 S2 S3 S4 hlv ga gb gc gd n1 n2 n3 n4 n5 n6 => markPgState k lv E r0 r1 r2 r3 r4 r5 rh rl re r9 r10 rc S1 S2 S3 S4 1 (by omega) hlv (by omega) (by omega) (by omega) (by omega) ga gb gc gd n1 n2 n3 n4 n5 n6
  have kRh := tkE (enc := GHead.enc) (l := rh) rfl
  have lRh := rws_len (enc := GHead.enc) rh
  have pRh := fun (c : Int) (l : Heap) (S : Nat) (hh : l.set S (some ⟨0, 5, false, true, rws GHead.enc rh⟩) = l) => hpm_all (enc := GHead.enc) (sz := 5) (mk := GHead.mkAt) (l := l) (S := S) (c := c) (ws := rh) hh
  have kRl := tkE (enc := GLast.enc) (l := rl) rfl
  have lRl := rws_len (enc := GLast.enc) rl
  have pRl := fun (c : Int) (l : Heap) (S : Nat) (hh : l.set S (some ⟨0, 4, false, true, rws GLast.enc rl⟩) = l) => hpm_all (enc := GLast.enc) (sz := 4) (mk := GLast.mkAt) (l := l) (S := S) (c := c) (ws := rl) hh
  have kRe := tkE (enc := GEntry.enc) (l := re) rfl
  have lRe := rws_len (enc := GEntry.enc) re
  have pRe := fun (c : Int) (l : Heap) (S : Nat) (hh : l.set S (some ⟨0, 10, false, true, rws GEntry.enc re⟩) = l) => hpm_all (enc := GEntry.enc) (sz := 10) (mk := GEntry.mkAt) (l := l) (S := S) (c := c) (ws := re) hh
  have kRc := tkE (enc := GChunk.enc) (l := rc) rfl
  have lRc := rws_len (enc := GChunk.enc) rc
  have pRc := fun (c : Int) (l : Heap) (S : Nat) (hh : l.set S (some ⟨0, 6, false, true, rws GChunk.enc rc⟩) = l) => hpm_all (enc := GChunk.enc) (sz := 6) (mk := GChunk.mkAt) (l := l) (S := S) (c := c) (ws := rc) hh
  have hh := fun k => heldPgState k r0 r1 r2 r3 r4 r5 rh.length rl.length re.length r9 r10 rc.length 1 (by omega) (by omega) (by omega) (by omega) (by omega)
  have qh := fun c n => tkE (enc := GHead.enc) (marks_len GHead.mkAt c n)
  have ql := fun c n => tkE (enc := GLast.enc) (marks_len GLast.mkAt c n)
  have qe := fun c n => tkE (enc := GEntry.enc) (marks_len GEntry.mkAt c n)
  have qc := fun c n => tkE (enc := GChunk.enc) (marks_len GChunk.mkAt c n)
  have d1 : decide (1 + 5 * (ah.length : Int) + 4 * al.length + 10 * ae.length + 6 * ac.length < 0) = false := by simp <;> omega
  have d3 : decide (1 + 5 * (rh.length : Int) + 4 * rl.length + 10 * re.length + 6 * rc.length < 0) = false := by simp <;> omega
  have te := fun k => toEntry k e.Ver_Epoch e.Ver_Seq e.Prior_Epoch e.Prior_Seq e.Name e.Gone e.Size e.Sum e.Req_Client e.Req_No
  unfold resPC psV at *
  simp only [GEntry.enc] at hi hs z2 ⊢
  simp (maxSteps := 40000000) [F4, rcall5, z1, g1, rcall12, z2, g2, rcall7, rcall14, te, rcall13, hs, rcall15, hi, rcall9, rcall10, rcall11, hh, storeM, d1, d3, tA, eA, mA, kAh, lAh, pAh, kAl, lAl, pAl, kAe, lAe, pAe, kAc, lAc, pAc, eR, mR, kRh, lRh, pRh, kRl, lRl, pRl, kRe, lRe, pRe, kRc, lRc, pRc, qh, ql, qe, qc]
end Go.Ae.GA
namespace Go.Ae.GA
set_option linter.unusedSimpArgs false
set_option linter.unusedVariables false
theorem entry_inv {cs : List AV} (h : FitsAll [.int .i64, .int .i64, .int .i64, .int .i64, .str, .bool, .int .i64, .int .i64, .int .i64, .int .i64] cs) : ∃ e : GEntry, cs = GEntry.enc e ∧ e.ok := by
  obtain ⟨ws, h1, h2⟩ := fitEntryS (xs := [cs]) (fun r hr => by simp at hr; subst hr; exact h)
  match ws, h1, h2 with
  | [x], h1, h2 => simp [rws] at h1; exact ⟨x, h1, h2 x (by simp)⟩
  | [], h1, _ => simp [rws] at h1
  | _ :: _ :: _, h1, _ => simp [rws] at h1
theorem lawAddEntry (avs : List AV) (h : PFitsAll [(true, [.int .i64, .int .i64, .int .i64, .int .i64, .int .i64, .int .i64, .sl 48 [.str, .int .i64, .int .i64, .int .i64, .int .i64], .sl 32 [.int .i64, .int .i64, .int .i64, .int .i64], .sl 88 [.int .i64, .int .i64, .int .i64, .int .i64, .str, .bool, .int .i64, .int .i64, .int .i64, .int .i64], .int .i64, .int .i64, .sl 64 [.str, .int .i64, .int .i64, .int .i64, .int .i64, .str]]), (true, [.int .i64, .int .i64, .int .i64, .int .i64, .str, .bool, .int .i64, .int .i64, .int .i64, .int .i64])] avs) : ∃ n bs e, call code n 4 avs [] = some ⟨.bool true, bs, e⟩ := by
  obtain ⟨v0, r, rfl, h0, h⟩ := h.cons_inv
  obtain ⟨v1, r, rfl, h1, h⟩ := h.cons_inv
  obtain rfl := h.nil_inv
  obtain ⟨cs, rfl, f0⟩ := h0.agg_inv
  obtain ⟨ds, rfl, f1⟩ := h1.agg_inv
  obtain ⟨p0, p1, se, st, te, ts, hs, ls, es, fe, fs, ks, e1, x1, x2, x3, x5, x6, x7, x8⟩ := ps_inv f0
  obtain ⟨e, rfl, y⟩ := entry_inv f1
  rw [e1]
  exact ⟨_, _, _, law4 0 p0 p1 se st te ts hs ls es fe fs ks e x1 x2 x3 x5 x6 x7 x8 y⟩
end Go.Ae.GA
