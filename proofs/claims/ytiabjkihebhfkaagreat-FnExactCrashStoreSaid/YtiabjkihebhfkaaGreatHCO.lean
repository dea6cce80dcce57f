/- The log, by heads: the reference's loop. -/
import Derived.Test.YtiabjkihebhfkaaGreatHCKM
import Derived.Test.YtiabjkihebhfkaaGreatHCFG
namespace Go.Ae.GA.B
set_option linter.unusedSimpArgs false
set_option linter.unusedVariables false
set_option maxRecDepth 100000 in
set_option maxHeartbeats 64000000 in
theorem l17Log (k : Nat) (p0 p1 se st te ts : Int) (hs : List GHead) (ls : List GLast) (es : List GEntry) (fe fs : Int) (cs : List GChunk) (hn : hs.length ≤ 1048576) (hn2 : es.length ≤ 1048576) (hz : ∀ e ∈ es, e.Name.size ≤ 1048576) : call code (k + 6) 101 [psV p0 p1 se st te ts hs ls es fe fs cs] [] = some ⟨.bool (lgB te ts hs es), [], []⟩ := by
  refine call_run rfl fn101 rfl ?_
  have hrl := rws_len (enc := GEntry.enc) es
  have hgx : ∀ i (hi : i < es.length) (hh : i < (rws GEntry.enc es).length), (rws GEntry.enc es)[i]'hh = GEntry.enc es[i] := fun i hi hh => rws_get ..
  unfold psV at *
  generalize rws GEntry.enc es = ES at *
  generalize rws GLast.enc ls = LS at *
  generalize rws GChunk.enc cs = CS at *
  simp [F101]
  refine RunC_loop (fun i : Nat => match i with
    | 0 => ⟨tm 48 [(1, .ptr 0 0 0 [] 0 0), (3, .ptr 0 66048 0 [] 0 0), (4, .rd true (rws GHead.enc hs)), (5, .int .i64 0)], [(0, some ⟨0, 12, true, false, [[.int .i64 p0, .int .i64 p1, .int .i64 se, .int .i64 st, .int .i64 te, .int .i64 ts, .rd true (rws GHead.enc hs), .rd true LS, .rd true ES, .int .i64 fe, .int .i64 fs, .rd true CS]]⟩), (66048, some ⟨0, 2, true, false, [[.int .i64 te, .int .i64 ts]]⟩)], []⟩
    | i + 1 => ⟨tm 48 [(1, .ptr 0 0 0 [] 0 0), (3, .ptr 0 66048 0 [] 0 0), (4, .sl 0 131328 0 [] 0 (hdI hs es (i + 1)).length), (5, .int .i64 ((i + 1 : Nat) : Int))], [(0, some ⟨0, 12, true, false, [[.int .i64 p0, .int .i64 p1, .int .i64 se, .int .i64 st, .int .i64 te, .int .i64 ts, .rd true (rws GHead.enc hs), .rd true LS, .rd true ES, .int .i64 fe, .int .i64 fs, .rd true CS]]⟩), (66048, some ⟨0, 2, true, false, [[.int .i64 (prE te (·.Ver_Epoch) es (i + 1)), .int .i64 (prE ts (·.Ver_Seq) es (i + 1))]]⟩), (131328, some ⟨0, 5, false, true, rws GHead.enc (hdI hs es (i + 1))⟩)], []⟩)
    (fun i => i ≤ es.length ∧ i ≤ 25 ∧ ∀ j, j < i → okE te ts hs es j = true) (fun i => es.length - i) 0 ⟨by omega, by omega, by omega⟩ (by simp; omega) (by simp [tm]) fun i hi _ => ?_
  obtain ⟨hi, hi25, h0⟩ := hi
  have exitT : i = es.length → lgB te ts hs es = decide ((es.length : Int) ≤ 24) := fun h => by
    subst h
    unfold lgB; rw [range_all.2 h0]; rfl
  have exitF : 24 < i → lgB te ts hs es = false := fun h => by unfold lgB; rw [show decide ((es.length : Int) ≤ 24) = false from decide_eq_false (by omega)]; simp
  have stop : ∀ h : i < es.length, okE te ts hs es i = false → lgB te ts hs es = false := fun hlt h => by unfold lgB; rw [range_false hlt h]; rfl
  have hpl : ∀ m, (hdI hs es m).length ≤ hs.length + m := hdI_le hs es
  rcases i with _ | i
  · by_cases hlt : 0 < es.length
    · by_cases h24 : 24 < 0
      · omega
      have w01 : IntKind.wrap .i64 1 = 1 := wrap64 ⟨by omega, by omega⟩
      have hg := hgx _ hlt
      have ok := okE_at (te := te) (ts := ts) (hs := hs) hlt
      have eo := fun k => entryOkS k es[0].Ver_Epoch es[0].Ver_Seq es[0].Prior_Epoch es[0].Prior_Seq es[0].Name es[0].Gone es[0].Size es[0].Sum es[0].Req_Client es[0].Req_No (hz _ (List.getElem_mem hlt))
      have et : entB ⟨es[0].Ver_Epoch, es[0].Ver_Seq, es[0].Prior_Epoch, es[0].Prior_Seq, es[0].Name, es[0].Gone, es[0].Size, es[0].Sum, es[0].Req_Client, es[0].Req_No⟩ = entB (toEnt es[0]) := rfl
      have hl0 := hpl (0)
      have hl1 := hpl (0 + 1)
      have pu := fun k => l17Put k (hdI hs es (0)) es[0] (by omega)
      rw [← hdI_succ hlt] at pu
      have pv1 : prE te (·.Ver_Epoch) es (0 + 1) = es[0].Ver_Epoch := by simp only [prE]; rw [List.getElem?_eq_getElem hlt]
      have pv2 : prE ts (·.Ver_Seq) es (0 + 1) = es[0].Ver_Seq := by simp only [prE]; rw [List.getElem?_eq_getElem hlt]
      have hq := List.getElem?_eq_getElem (l := ES) (i := 0) (by omega)
      rw [hg] at hq
      have kp := tkE (enc := GHead.enc) (l := hdI hs es (0 + 1)) rfl
      have rp := rws_len (enc := GHead.enc) (hdI hs es (0 + 1))
      have k0 := tkE (enc := GHead.enc) (l := hs) rfl
      have h00 : hdI hs es 0 = hs := rfl
      rw [h00] at pu
      simp only [Nat.zero_add] at *
      simp only [GEntry.enc] at hg hq pu
      rw [et] at eo
      cases c1 : entB (toEnt es[0])
      · rw [c1] at eo ok
        have hst := stop hlt (by rw [ok]; rfl)
        simp [tm, hlt, hrl, hq, hg, storeM, w01, rcall174, eo, hst]
      rw [c1] at eo
      cases c2 : es[0].Prior_Epoch == te
      · have c2' : es[0].Prior_Epoch ≠ te := by simpa using c2
        have hst := stop hlt (by rw [ok]; simp [c2', prE])
        simp [tm, hlt, hrl, hq, hg, storeM, w01, rcall174, eo, c2, hst]
      cases c3 : es[0].Prior_Seq == ts
      · have c3' : es[0].Prior_Seq ≠ ts := by simpa using c3
        have hst := stop hlt (by rw [ok]; simp [c3', prE])
        simp [tm, hlt, hrl, hq, hg, storeM, w01, rcall174, eo, c2, c3, hst]
      have c2' : es[0].Prior_Epoch = te := by simpa using c2
      have c3' : es[0].Prior_Seq = ts := by simpa using c3
      by_cases c4 : (hdI hs es (0 + 1)).length ≤ 16
      · have hok : okE te ts hs es (0) = true := by rw [ok, c1]; simp [c2', c3', c4, prE]
        have c5 : ¬ 16 < (hdI hs es (0 + 1)).length := by omega
        have c6 : ¬ (16 : Int) < ((hdI hs es (0 + 1)).length : Int) := by omega
        simp [tm, hlt, hrl, hq, hg, storeM, w01, rcall174, eo, c2, c3, rcall175, pu, kp, rp, c5, c6]
        refine ⟨0 + 1, ⟨by omega, by omega, fun j hj => ?_⟩, by omega, ?_⟩
        · rcases Nat.lt_succ_iff_lt_or_eq.1 hj with h1 | rfl
          · exact h0 j h1
          · exact hok
        · simp [tm, pv1, pv2, w01]
      · have hst := stop hlt (by rw [ok, c1]; simp [c4])
        have c5 : 16 < (hdI hs es (0 + 1)).length := by omega
        have c6 : (16 : Int) < ((hdI hs es (0 + 1)).length : Int) := by omega
        simp [tm, hlt, hrl, hq, hg, storeM, w01, rcall174, eo, c2, c3, rcall175, pu, kp, rp, c5, c6, hst]
    · have he : 0 = es.length := by omega
      have e := exitT he
      have hz0 : es.length = 0 := he.symm
      rw [e]
      simp [tm, hrl, hz0]
  · by_cases hlt : i + 1 < es.length
    · by_cases h24 : 24 < i + 1
      · have e := exitF h24
        have hlt2 : (i : Int) + 1 < es.length := by omega
        have d2 : ¬ ((i : Int) + 1 ≤ 24) := by omega
        have d3 : ¬ (es.length : Int) ≤ 24 := by omega
        have d4 : ¬ es.length ≤ 24 := by omega
        rw [e]
        simp [tm, hlt, hlt2, hrl, d2, d3, d4]
      have d24 : (i : Int) + 1 ≤ 24 := by omega
      have hg := hgx _ hlt
      have ok := okE_at (te := te) (ts := ts) (hs := hs) hlt
      have eo := fun k => entryOkS k es[i + 1].Ver_Epoch es[i + 1].Ver_Seq es[i + 1].Prior_Epoch es[i + 1].Prior_Seq es[i + 1].Name es[i + 1].Gone es[i + 1].Size es[i + 1].Sum es[i + 1].Req_Client es[i + 1].Req_No (hz _ (List.getElem_mem hlt))
      have et : entB ⟨es[i + 1].Ver_Epoch, es[i + 1].Ver_Seq, es[i + 1].Prior_Epoch, es[i + 1].Prior_Seq, es[i + 1].Name, es[i + 1].Gone, es[i + 1].Size, es[i + 1].Sum, es[i + 1].Req_Client, es[i + 1].Req_No⟩ = entB (toEnt es[i + 1]) := rfl
      have hl0 := hpl (i + 1)
      have hl1 := hpl (i + 1 + 1)
      have pu := fun k => l17Put k (hdI hs es (i + 1)) es[i + 1] (by omega)
      rw [← hdI_succ hlt] at pu
      have pv1 : prE te (·.Ver_Epoch) es (i + 1 + 1) = es[i + 1].Ver_Epoch := by simp only [prE]; rw [List.getElem?_eq_getElem hlt]
      have pv2 : prE ts (·.Ver_Seq) es (i + 1 + 1) = es[i + 1].Ver_Seq := by simp only [prE]; rw [List.getElem?_eq_getElem hlt]
      have hq := List.getElem?_eq_getElem (l := ES) (i := i + 1) (by omega)
      rw [hg] at hq
      have kp := tkE (enc := GHead.enc) (l := hdI hs es (i + 1 + 1)) rfl
      have rp := rws_len (enc := GHead.enc) (hdI hs es (i + 1 + 1))
      have k0 := tkE (enc := GHead.enc) (l := hdI hs es (i + 1)) rfl
      have r0 := rws_len (enc := GHead.enc) (hdI hs es (i + 1))
      have ws : IntKind.wrap .i64 ((i : Int) + 1 + 1) = (i : Int) + 1 + 1 := wrap64 ⟨by omega, by omega⟩
      have hlt2 : (i : Int) + 1 < es.length := by omega
      have q0 : (0 : Int) ≤ (i : Int) + 1 := by omega
      simp only [GEntry.enc] at hg hq pu
      rw [et] at eo
      cases c1 : entB (toEnt es[i + 1])
      · rw [c1] at eo ok
        have hst := stop hlt (by rw [ok]; rfl)
        simp [tm, hlt, hlt2, q0, hrl, hq, hg, storeM, d24, k0, r0, ws, rcall174, eo, hst]
      rw [c1] at eo
      cases c2 : es[i + 1].Prior_Epoch == prE te (·.Ver_Epoch) es (i + 1)
      · have c2' : es[i + 1].Prior_Epoch ≠ prE te (·.Ver_Epoch) es (i + 1) := by simpa using c2
        have hst := stop hlt (by rw [ok]; simp [c2'])
        simp [tm, hlt, hlt2, q0, hrl, hq, hg, storeM, d24, k0, r0, ws, rcall174, eo, c2, hst]
      cases c3 : es[i + 1].Prior_Seq == prE ts (·.Ver_Seq) es (i + 1)
      · have c3' : es[i + 1].Prior_Seq ≠ prE ts (·.Ver_Seq) es (i + 1) := by simpa using c3
        have hst := stop hlt (by rw [ok]; simp [c3'])
        simp [tm, hlt, hlt2, q0, hrl, hq, hg, storeM, d24, k0, r0, ws, rcall174, eo, c2, c3, hst]
      have c2' : es[i + 1].Prior_Epoch = prE te (·.Ver_Epoch) es (i + 1) := by simpa using c2
      have c3' : es[i + 1].Prior_Seq = prE ts (·.Ver_Seq) es (i + 1) := by simpa using c3
      by_cases c4 : (hdI hs es (i + 1 + 1)).length ≤ 16
      · have hok : okE te ts hs es (i + 1) = true := by rw [ok, c1]; simp [c2', c3', c4]
        have c5 : ¬ 16 < (hdI hs es (i + 1 + 1)).length := by omega
        have c6 : ¬ (16 : Int) < ((hdI hs es (i + 1 + 1)).length : Int) := by omega
        simp [tm, hlt, hlt2, q0, hrl, hq, hg, storeM, d24, k0, r0, ws, rcall174, eo, c2, c3, rcall175, pu, kp, rp, c5, c6]
        refine ⟨i + 1 + 1, ⟨by omega, by omega, fun j hj => ?_⟩, by omega, ?_⟩
        · rcases Nat.lt_succ_iff_lt_or_eq.1 hj with h1 | rfl
          · exact h0 j h1
          · exact hok
        · simp [tm, pv1, pv2, ws]
      · have hst := stop hlt (by rw [ok, c1]; simp [c4])
        have c5 : 16 < (hdI hs es (i + 1 + 1)).length := by omega
        have c6 : (16 : Int) < ((hdI hs es (i + 1 + 1)).length : Int) := by omega
        simp [tm, hlt, hlt2, q0, hrl, hq, hg, storeM, d24, k0, r0, ws, rcall174, eo, c2, c3, rcall175, pu, kp, rp, c5, c6, hst]
    · have he : i + 1 = es.length := by omega
      have e := exitT he
      rw [e]
      have hlt2 : ¬ ((i : Int) + 1 < es.length) := by omega
      simp [tm, hrl, hlt, hlt2]
end Go.Ae.GA.B
