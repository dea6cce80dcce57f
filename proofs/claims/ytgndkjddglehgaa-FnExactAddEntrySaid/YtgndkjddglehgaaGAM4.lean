/- All chunks in order: the program's loop and the reference's. -/
import Derived.Test.YtgndkjddglehgaaGAM3
import Derived.Test.YtgndkjddglehgaaGAM2
namespace Go.Ae.GA
set_option linter.unusedSimpArgs false
set_option linter.unusedVariables false
/-- A placement group's state, as it is handed over. -/
abbrev psV (p0 p1 se st te ts : Int) (hs : List GHead) (ls : List GLast) (es : List GEntry) (fe fs : Int) (cs : List GChunk) : AV :=
  .agg [.int .i64 p0, .int .i64 p1, .int .i64 se, .int .i64 st, .int .i64 te, .int .i64 ts, .rd true (rws GHead.enc hs), .rd true (rws GLast.enc ls), .rd true (rws GEntry.enc es), .int .i64 fe, .int .i64 fs, .rd true (rws GChunk.enc cs)]
theorem range_all {n : Nat} {p : Nat → Bool} : (List.range n).all p = true ↔ ∀ i, i < n → p i = true := by
  rw [List.all_eq_true]
  exact ⟨fun h i hi => h i (List.mem_range.2 hi), fun h i hi => h i (List.mem_range.1 hi)⟩
theorem range_false {n : Nat} {p : Nat → Bool} {i : Nat} (hi : i < n) (h : p i = false) : (List.range n).all p = false := by
  rw [Bool.eq_false_iff]
  intro h2
  rw [range_all.1 h2 i hi] at h
  cases h
def chkG (c : GChunk) : Bool := chkB c.Name c.Ver_Epoch c.Ver_Seq c.Pos c.Sum c.Bytes
def okC (cs : List GChunk) (i : Nat) : Bool := match cs[i]? with
  | some c => chkG c && (match i with
    | 0 => true
    | j + 1 => match cs[j]? with
      | some b => lessC b c
      | none => false)
  | none => false
def chksB (cs : List GChunk) : Bool := (List.range cs.length).all (okC cs) && decide ((cs.length : Int) ≤ 160)
theorem okC_zero {cs : List GChunk} (h : 0 < cs.length) : okC cs 0 = chkG cs[0] := by
  unfold okC; rw [List.getElem?_eq_getElem h]; simp
theorem okC_succ {cs : List GChunk} {i : Nat} (h : i < cs.length) (h0 : 0 < i) : okC cs i = (chkG cs[i] && lessC (cs[i - 1]'(by omega)) cs[i]) := by
  unfold okC
  rw [List.getElem?_eq_getElem h]
  obtain ⟨j, rfl⟩ : ∃ j, i = j + 1 := ⟨i - 1, by omega⟩
  simp [List.getElem?_eq_getElem (show j < cs.length by omega)]
set_option maxRecDepth 100000 in
set_option maxHeartbeats 16000000 in
theorem chunksOk (k : Nat) (p0 p1 se st te ts : Int) (hs : List GHead) (ls : List GLast) (es : List GEntry) (fe fs : Int) (cs : List GChunk) (hn : cs.length ≤ 1048576) (hz : ∀ c ∈ cs, c.Name.size ≤ 1048576) : call code (k + 6) 71 [psV p0 p1 se st te ts hs ls es fe fs cs] [] = some ⟨.bool (chksB cs), [], []⟩ := by
  refine call_run rfl fn71 rfl ?_
  simp [F71]
  refine RunC_loop (fun i : Nat => ⟨tm 36 [(1, .ptr 0 0 0 [] 0 0), (6, .rd true (rws GChunk.enc cs)), (7, .int .i64 cs.length), (8, .int .i64 i)], [(0, some ⟨0, 12, true, false, [[.int .i64 p0, .int .i64 p1, .int .i64 se, .int .i64 st, .int .i64 te, .int .i64 ts, .rd true (rws GHead.enc hs), .rd true (rws GLast.enc ls), .rd true (rws GEntry.enc es), .int .i64 fe, .int .i64 fs, .rd true (rws GChunk.enc cs)]]⟩)], []⟩)
    (fun i => i ≤ cs.length ∧ ∀ j, j < i → okC cs j = true) (fun i => cs.length - i) 0 ⟨by omega, by omega⟩ (by simp; omega) (by simp [tm]) fun i hi _ => ?_
  obtain ⟨hi, h0⟩ := hi
  by_cases hlt : i < cs.length
  · have hs' := idx_succ' hlt (by omega)
    have hg : ∀ hh, (rws GChunk.enc cs)[i]'hh = GChunk.enc cs[i] := fun hh => rws_get ..
    have hrl := rws_len (enc := GChunk.enc) cs
    have ck := fun k => chunkOk k cs[i].Name cs[i].Ver_Epoch cs[i].Ver_Seq cs[i].Pos cs[i].Sum cs[i].Bytes (hz _ (List.getElem_mem hlt))
    have next : okC cs i = true → ∃ a, (a ≤ cs.length ∧ ∀ j, j < a → okC cs j = true) ∧ cs.length - a < cs.length - i ∧ ((i + 1 : Nat) : Int) = (a : Int) := fun h => ⟨i + 1, ⟨by omega, fun j hj => by
      rcases Nat.lt_succ_iff_lt_or_eq.1 hj with h1 | rfl
      · exact h0 j h1
      · exact h⟩, by omega, rfl⟩
    have stop : okC cs i = false → chksB cs = false := fun h => by unfold chksB; rw [range_false hlt h]; rfl
    by_cases hz0 : i = 0
    · subst hz0
      have e := okC_zero hlt
      cases c1 : chkG cs[0]
      · rw [c1] at e
        unfold chkG at c1
        rw [c1] at ck
        have := stop e
        simp only [GChunk.enc] at hg
        simp [tm, hlt, hg, storeM, rcall92, ck, this]
      · rw [c1] at e
        unfold chkG at c1
        rw [c1] at ck
        have := next e
        simp only [GChunk.enc] at hg
        have w01 : IntKind.wrap .i64 1 = 1 := wrap64 ⟨by omega, by omega⟩
        simp [tm, hlt, hg, storeM, rcall92, ck, w01]
        simpa using this
    · have e := okC_succ hlt (by omega)
      have hg2 : ∀ hh, (rws GChunk.enc cs)[i - 1]'hh = GChunk.enc (cs[i - 1]'(by omega)) := fun hh => rws_get ..
      have w1 : IntKind.wrap .i64 ((i : Int) - 1) = ((i - 1 : Nat) : Int) := by rw [wrap64 ⟨by omega, by omega⟩]; omega
      have hi1 : i - 1 < cs.length := by omega
      have cc := fun k => compareChunks k (cs[i - 1]'(by omega)) cs[i]
      have cl := cmpC_lt (cs[i - 1]'(by omega)) cs[i]
      have hi0 : 0 < i := by omega
      cases c1 : chkG cs[i]
      · rw [c1] at e
        unfold chkG at c1
        rw [c1] at ck
        have := stop e
        simp only [GChunk.enc] at hg
        simp [tm, hlt, hg, storeM, rcall92, ck, this]
      rw [c1, Bool.true_and] at e
      unfold chkG at c1
      rw [c1] at ck
      rw [← e] at cl
      cases c2 : okC cs i
      · have := stop c2
        rw [c2] at cl
        simp only [GChunk.enc] at hg hg2 cc
        simp [tm, hlt, hg, storeM, rcall92, ck, hi0, w1, hi1, hrl, hg2, rcall93, cc, cl, this]
      · have := next c2
        rw [c2] at cl
        simp only [GChunk.enc] at hg hg2 cc
        simp [tm, hlt, hg, storeM, rcall92, ck, hi0, w1, hi1, hrl, hg2, rcall93, cc, cl, hs']
        simpa using this
  · have : i = cs.length := by omega
    subst this
    have e : chksB cs = decide ((cs.length : Int) ≤ 160) := by unfold chksB; rw [range_all.2 h0]; rfl
    rw [e]
    have hrl := rws_len (enc := GChunk.enc) cs
    simp [tm, hrl]
set_option maxRecDepth 100000 in
set_option maxHeartbeats 16000000 in
theorem l17Chunks (k : Nat) (cs : List GChunk) (hn : cs.length ≤ 1048576) (hz : ∀ c ∈ cs, c.Name.size ≤ 1048576) : call code (k + 6) 60 [.rd true (rws GChunk.enc cs)] [] = some ⟨.bool (chksB cs), [], []⟩ := by
  refine call_run rfl fn60 rfl ?_
  simp [F60]
  refine RunC_loop (fun i : Nat => ⟨tm 40 [(0, .rd true (rws GChunk.enc cs)), (3, .int .i64 i)], [], []⟩)
    (fun i => i ≤ cs.length ∧ ∀ j, j < i → okC cs j = true) (fun i => cs.length - i) 0 ⟨by omega, by omega⟩ (by simp; omega) (by simp [tm]) fun i hi _ => ?_
  obtain ⟨hi, h0⟩ := hi
  by_cases hlt0 : 160 < i
  · have e : chksB cs = false := by unfold chksB; rw [show decide ((cs.length : Int) ≤ 160) = false from decide_eq_false (by omega)]; simp
    have hrl := rws_len (enc := GChunk.enc) cs
    have d1 : ¬ (i : Int) ≤ 160 := by omega
    have d2 : ¬ (cs.length : Int) ≤ 160 := by omega
    have d3 : ¬ i ≤ 160 := by omega
    have d4 : ¬ cs.length ≤ 160 := by omega
    rw [e]
    by_cases hlt : i < cs.length <;> simp [tm, hlt, d1, hrl, d1, d2, d3, d4]
  have d1 : (i : Int) ≤ 160 := by omega
  by_cases hlt : i < cs.length
  · have hs' := idx_succ' hlt (by omega)
    have hg : ∀ hh, (rws GChunk.enc cs)[i]'hh = GChunk.enc cs[i] := fun hh => rws_get ..
    have hrl := rws_len (enc := GChunk.enc) cs
    have ck := fun k => chunkOkS k cs[i].Name cs[i].Ver_Epoch cs[i].Ver_Seq cs[i].Pos cs[i].Sum cs[i].Bytes (hz _ (List.getElem_mem hlt))
    have next : okC cs i = true → ∃ a, (a ≤ cs.length ∧ ∀ j, j < a → okC cs j = true) ∧ cs.length - a < cs.length - i ∧ ((i + 1 : Nat) : Int) = (a : Int) := fun h => ⟨i + 1, ⟨by omega, fun j hj => by
      rcases Nat.lt_succ_iff_lt_or_eq.1 hj with h1 | rfl
      · exact h0 j h1
      · exact h⟩, by omega, rfl⟩
    have stop : okC cs i = false → chksB cs = false := fun h => by unfold chksB; rw [range_false hlt h]; rfl
    by_cases hz0 : i = 0
    · subst hz0
      have e := okC_zero hlt
      cases c1 : chkG cs[0]
      · rw [c1] at e
        unfold chkG at c1
        rw [c1] at ck
        have := stop e
        simp only [GChunk.enc] at hg
        simp [tm, hlt, d1, hg, storeM, rcall87, ck, this]
      · rw [c1] at e
        unfold chkG at c1
        rw [c1] at ck
        have := next e
        simp only [GChunk.enc] at hg
        have w01 : IntKind.wrap .i64 1 = 1 := wrap64 ⟨by omega, by omega⟩
        simp [tm, hlt, d1, hg, storeM, rcall87, ck, w01]
        simpa using this
    · have e := okC_succ hlt (by omega)
      have hg2 : ∀ hh, (rws GChunk.enc cs)[i - 1]'hh = GChunk.enc (cs[i - 1]'(by omega)) := fun hh => rws_get ..
      have w1 : IntKind.wrap .i64 ((i : Int) - 1) = ((i - 1 : Nat) : Int) := by rw [wrap64 ⟨by omega, by omega⟩]; omega
      have hi1 : i - 1 < cs.length := by omega
      have cc := fun k => chunkLess k (cs[i - 1]'(by omega)) cs[i]
      have hi0 : 0 < i := by omega
      cases c1 : chkG cs[i]
      · rw [c1] at e
        unfold chkG at c1
        rw [c1] at ck
        have := stop e
        simp only [GChunk.enc] at hg
        simp [tm, hlt, d1, hg, storeM, rcall87, ck, this]
      rw [c1, Bool.true_and] at e
      unfold chkG at c1
      rw [c1] at ck
      rw [← e] at cc
      cases c2 : okC cs i
      · have := stop c2
        rw [c2] at cc
        simp only [GChunk.enc] at hg hg2 cc
        simp [tm, hlt, d1, hg, storeM, rcall87, ck, hi0, w1, hi1, hrl, hg2, rcall88, cc, this]
      · have := next c2
        rw [c2] at cc
        simp only [GChunk.enc] at hg hg2 cc
        simp [tm, hlt, d1, hg, storeM, rcall87, ck, hi0, w1, hi1, hrl, hg2, rcall88, cc, hs']
        simpa using this
  · have : i = cs.length := by omega
    subst this
    have e : chksB cs = decide ((cs.length : Int) ≤ 160) := by unfold chksB; rw [range_all.2 h0]; rfl
    rw [e]
    have hrl := rws_len (enc := GChunk.enc) cs
    simp [tm, d1, hrl]
end Go.Ae.GA
namespace Go.Ae.GA
set_option linter.unusedSimpArgs false
set_option linter.unusedVariables false
set_option maxRecDepth 100000 in
set_option maxHeartbeats 64000000 in
theorem l17Log (k : Nat) (p0 p1 se st te ts : Int) (hs : List GHead) (ls : List GLast) (es : List GEntry) (fe fs : Int) (cs : List GChunk) (hn : hs.length ≤ 1048576) (hn2 : es.length ≤ 1048576) (hz : ∀ e ∈ es, e.Name.size ≤ 1048576) : call code (k + 6) 58 [psV p0 p1 se st te ts hs ls es fe fs cs] [] = some ⟨.bool (lgB te ts hs es), [], []⟩ := by
  refine call_run rfl fn58 rfl ?_
  have hrl := rws_len (enc := GEntry.enc) es
  have hgx : ∀ i (hi : i < es.length) (hh : i < (rws GEntry.enc es).length), (rws GEntry.enc es)[i]'hh = GEntry.enc es[i] := fun i hi hh => rws_get ..
  unfold psV at *
  generalize rws GEntry.enc es = ES at *
  generalize rws GLast.enc ls = LS at *
  generalize rws GChunk.enc cs = CS at *
  simp [F58]
  refine RunC_loop (fun i : Nat => match i with
    | 0 => ⟨tm 48 [(1, .ptr 0 0 0 [] 0 0), (3, .ptr 0 66048 0 [] 0 0), (4, .rd true (rws GHead.enc hs)), (5, .int .i64 0)], [(0, some ⟨0, 12, true, false, [[.int .i64 p0, .int .i64 p1, .int .i64 se, .int .i64 st, .int .i64 te, .int .i64 ts, .rd true (rws GHead.enc hs), .rd true LS, .rd true ES, .int .i64 fe, .int .i64 fs, .rd true CS]]⟩), (66048, some ⟨0, 2, true, false, [[.int .i64 te, .int .i64 ts]]⟩)], []⟩
    | i + 1 => ⟨tm 48 [(1, .ptr 0 0 0 [] 0 0), (3, .ptr 0 66048 0 [] 0 0), (4, .sl 0 131328 0 [] 0 (hdI hs es (i + 1)).length), (5, .int .i64 ((i + 1 : Nat) : Int))], [(0, some ⟨0, 12, true, false, [[.int .i64 p0, .int .i64 p1, .int .i64 se, .int .i64 st, .int .i64 te, .int .i64 ts, .rd true (rws GHead.enc hs), .rd true LS, .rd true ES, .int .i64 fe, .int .i64 fs, .rd true CS]]⟩), (66048, some ⟨0, 2, true, false, [[.int .i64 (prE te (·.Ver_Epoch) es (i + 1)), .int .i64 (prE ts (·.Ver_Seq) es (i + 1))]]⟩), (131328, some ⟨0, 5, false, true, rws GHead.enc (hdI hs es (i + 1))⟩)], []⟩)
    (fun i => i ≤ es.length ∧ i ≤ 25 ∧ ∀ j, j < i → okE te ts hs es j = true) (fun i => es.length - i) 0 ⟨by omega, by omega, by omega⟩ (by simp; omega) (by simp [tm]) fun i hi _ => ?_
  obtain ⟨hi, hi25, h0⟩ := hi
  have exitT : i = es.length → lgB te ts hs es = decide ((es.length : Int) ≤ 24) := fun h => by
    subst h
    unfold lgB; rw [range_all.2 h0]; rfl
  have exitF : 24 < i → lgB te ts hs es = false := fun h => by unfold lgB; rw [show decide ((es.length : Int) ≤ 24) = false from decide_eq_false (by omega)]; simp
  have stop : ∀ h : i < es.length, okE te ts hs es i = false → lgB te ts hs es = false := fun hlt h => by unfold lgB; rw [range_false hlt h]; rfl
  have hpl : ∀ m, (hdI hs es m).length ≤ hs.length + m := hdI_le hs es
  rcases i with _ | i
  · by_cases hlt : 0 < es.length
    · by_cases h24 : 24 < 0
      · omega
      have w01 : IntKind.wrap .i64 1 = 1 := wrap64 ⟨by omega, by omega⟩
      have hg := hgx _ hlt
      have ok := okE_at (te := te) (ts := ts) (hs := hs) hlt
      have eo := fun k => entryOkS k es[0].Ver_Epoch es[0].Ver_Seq es[0].Prior_Epoch es[0].Prior_Seq es[0].Name es[0].Gone es[0].Size es[0].Sum es[0].Req_Client es[0].Req_No (hz _ (List.getElem_mem hlt))
      have et : entB ⟨es[0].Ver_Epoch, es[0].Ver_Seq, es[0].Prior_Epoch, es[0].Prior_Seq, es[0].Name, es[0].Gone, es[0].Size, es[0].Sum, es[0].Req_Client, es[0].Req_No⟩ = entB (toEnt es[0]) := rfl
      have hl0 := hpl (0)
      have hl1 := hpl (0 + 1)
      have pu := fun k => l17Put k (hdI hs es (0)) es[0] (by omega)
      rw [← hdI_succ hlt] at pu
      have pv1 : prE te (·.Ver_Epoch) es (0 + 1) = es[0].Ver_Epoch := by simp only [prE]; rw [List.getElem?_eq_getElem hlt]
      have pv2 : prE ts (·.Ver_Seq) es (0 + 1) = es[0].Ver_Seq := by simp only [prE]; rw [List.getElem?_eq_getElem hlt]
      have hq := List.getElem?_eq_getElem (l := ES) (i := 0) (by omega)
      rw [hg] at hq
      have kp := tkE (enc := GHead.enc) (l := hdI hs es (0 + 1)) rfl
      have rp := rws_len (enc := GHead.enc) (hdI hs es (0 + 1))
      have k0 := tkE (enc := GHead.enc) (l := hs) rfl
      have h00 : hdI hs es 0 = hs := rfl
      rw [h00] at pu
      simp only [Nat.zero_add] at *
      simp only [GEntry.enc] at hg hq pu
      rw [et] at eo
      cases c1 : entB (toEnt es[0])
      · rw [c1] at eo ok
        have hst := stop hlt (by rw [ok]; rfl)
        simp [tm, hlt, hrl, hq, hg, storeM, w01, rcall44, eo, hst]
      rw [c1] at eo
      cases c2 : es[0].Prior_Epoch == te
      · have c2' : es[0].Prior_Epoch ≠ te := by simpa using c2
        have hst := stop hlt (by rw [ok]; simp [c2', prE])
        simp [tm, hlt, hrl, hq, hg, storeM, w01, rcall44, eo, c2, hst]
      cases c3 : es[0].Prior_Seq == ts
      · have c3' : es[0].Prior_Seq ≠ ts := by simpa using c3
        have hst := stop hlt (by rw [ok]; simp [c3', prE])
        simp [tm, hlt, hrl, hq, hg, storeM, w01, rcall44, eo, c2, c3, hst]
      have c2' : es[0].Prior_Epoch = te := by simpa using c2
      have c3' : es[0].Prior_Seq = ts := by simpa using c3
      by_cases c4 : (hdI hs es (0 + 1)).length ≤ 16
      · have hok : okE te ts hs es (0) = true := by rw [ok, c1]; simp [c2', c3', c4, prE]
        have c5 : ¬ 16 < (hdI hs es (0 + 1)).length := by omega
        have c6 : ¬ (16 : Int) < ((hdI hs es (0 + 1)).length : Int) := by omega
        simp [tm, hlt, hrl, hq, hg, storeM, w01, rcall44, eo, c2, c3, rcall46, pu, kp, rp, c5, c6]
        refine ⟨0 + 1, ⟨by omega, by omega, fun j hj => ?_⟩, by omega, ?_⟩
        · rcases Nat.lt_succ_iff_lt_or_eq.1 hj with h1 | rfl
          · exact h0 j h1
          · exact hok
        · simp [tm, pv1, pv2, w01]
      · have hst := stop hlt (by rw [ok, c1]; simp [c4])
        have c5 : 16 < (hdI hs es (0 + 1)).length := by omega
        have c6 : (16 : Int) < ((hdI hs es (0 + 1)).length : Int) := by omega
        simp [tm, hlt, hrl, hq, hg, storeM, w01, rcall44, eo, c2, c3, rcall46, pu, kp, rp, c5, c6, hst]
    · have he : 0 = es.length := by omega
      have e := exitT he
      have hz0 : es.length = 0 := he.symm
      rw [e]
      simp [tm, hrl, hz0]
  · by_cases hlt : i + 1 < es.length
    · by_cases h24 : 24 < i + 1
      · have e := exitF h24
        have hlt2 : (i : Int) + 1 < es.length := by omega
        have d2 : ¬ ((i : Int) + 1 ≤ 24) := by omega
        have d3 : ¬ (es.length : Int) ≤ 24 := by omega
        have d4 : ¬ es.length ≤ 24 := by omega
        rw [e]
        simp [tm, hlt, hlt2, hrl, d2, d3, d4]
      have d24 : (i : Int) + 1 ≤ 24 := by omega
      have hg := hgx _ hlt
      have ok := okE_at (te := te) (ts := ts) (hs := hs) hlt
      have eo := fun k => entryOkS k es[i + 1].Ver_Epoch es[i + 1].Ver_Seq es[i + 1].Prior_Epoch es[i + 1].Prior_Seq es[i + 1].Name es[i + 1].Gone es[i + 1].Size es[i + 1].Sum es[i + 1].Req_Client es[i + 1].Req_No (hz _ (List.getElem_mem hlt))
      have et : entB ⟨es[i + 1].Ver_Epoch, es[i + 1].Ver_Seq, es[i + 1].Prior_Epoch, es[i + 1].Prior_Seq, es[i + 1].Name, es[i + 1].Gone, es[i + 1].Size, es[i + 1].Sum, es[i + 1].Req_Client, es[i + 1].Req_No⟩ = entB (toEnt es[i + 1]) := rfl
      have hl0 := hpl (i + 1)
      have hl1 := hpl (i + 1 + 1)
      have pu := fun k => l17Put k (hdI hs es (i + 1)) es[i + 1] (by omega)
      rw [← hdI_succ hlt] at pu
      have pv1 : prE te (·.Ver_Epoch) es (i + 1 + 1) = es[i + 1].Ver_Epoch := by simp only [prE]; rw [List.getElem?_eq_getElem hlt]
      have pv2 : prE ts (·.Ver_Seq) es (i + 1 + 1) = es[i + 1].Ver_Seq := by simp only [prE]; rw [List.getElem?_eq_getElem hlt]
      have hq := List.getElem?_eq_getElem (l := ES) (i := i + 1) (by omega)
      rw [hg] at hq
      have kp := tkE (enc := GHead.enc) (l := hdI hs es (i + 1 + 1)) rfl
      have rp := rws_len (enc := GHead.enc) (hdI hs es (i + 1 + 1))
      have k0 := tkE (enc := GHead.enc) (l := hdI hs es (i + 1)) rfl
      have r0 := rws_len (enc := GHead.enc) (hdI hs es (i + 1))
      have ws : IntKind.wrap .i64 ((i : Int) + 1 + 1) = (i : Int) + 1 + 1 := wrap64 ⟨by omega, by omega⟩
      have hlt2 : (i : Int) + 1 < es.length := by omega
      have q0 : (0 : Int) ≤ (i : Int) + 1 := by omega
      simp only [GEntry.enc] at hg hq pu
      rw [et] at eo
      cases c1 : entB (toEnt es[i + 1])
      · rw [c1] at eo ok
        have hst := stop hlt (by rw [ok]; rfl)
        simp [tm, hlt, hlt2, q0, hrl, hq, hg, storeM, d24, k0, r0, ws, rcall44, eo, hst]
      rw [c1] at eo
      cases c2 : es[i + 1].Prior_Epoch == prE te (·.Ver_Epoch) es (i + 1)
      · have c2' : es[i + 1].Prior_Epoch ≠ prE te (·.Ver_Epoch) es (i + 1) := by simpa using c2
        have hst := stop hlt (by rw [ok]; simp [c2'])
        simp [tm, hlt, hlt2, q0, hrl, hq, hg, storeM, d24, k0, r0, ws, rcall44, eo, c2, hst]
      cases c3 : es[i + 1].Prior_Seq == prE ts (·.Ver_Seq) es (i + 1)
      · have c3' : es[i + 1].Prior_Seq ≠ prE ts (·.Ver_Seq) es (i + 1) := by simpa using c3
        have hst := stop hlt (by rw [ok]; simp [c3'])
        simp [tm, hlt, hlt2, q0, hrl, hq, hg, storeM, d24, k0, r0, ws, rcall44, eo, c2, c3, hst]
      have c2' : es[i + 1].Prior_Epoch = prE te (·.Ver_Epoch) es (i + 1) := by simpa using c2
      have c3' : es[i + 1].Prior_Seq = prE ts (·.Ver_Seq) es (i + 1) := by simpa using c3
      by_cases c4 : (hdI hs es (i + 1 + 1)).length ≤ 16
      · have hok : okE te ts hs es (i + 1) = true := by rw [ok, c1]; simp [c2', c3', c4]
        have c5 : ¬ 16 < (hdI hs es (i + 1 + 1)).length := by omega
        have c6 : ¬ (16 : Int) < ((hdI hs es (i + 1 + 1)).length : Int) := by omega
        simp [tm, hlt, hlt2, q0, hrl, hq, hg, storeM, d24, k0, r0, ws, rcall44, eo, c2, c3, rcall46, pu, kp, rp, c5, c6]
        refine ⟨i + 1 + 1, ⟨by omega, by omega, fun j hj => ?_⟩, by omega, ?_⟩
        · rcases Nat.lt_succ_iff_lt_or_eq.1 hj with h1 | rfl
          · exact h0 j h1
          · exact hok
        · simp [tm, pv1, pv2, ws]
      · have hst := stop hlt (by rw [ok, c1]; simp [c4])
        have c5 : 16 < (hdI hs es (i + 1 + 1)).length := by omega
        have c6 : (16 : Int) < ((hdI hs es (i + 1 + 1)).length : Int) := by omega
        simp [tm, hlt, hlt2, q0, hrl, hq, hg, storeM, d24, k0, r0, ws, rcall44, eo, c2, c3, rcall46, pu, kp, rp, c5, c6, hst]
    · have he : i + 1 = es.length := by omega
      have e := exitT he
      rw [e]
      have hlt2 : ¬ ((i : Int) + 1 < es.length) := by omega
      simp [tm, hrl, hlt, hlt2]
end Go.Ae.GA
namespace Go.Ae.GA
set_option linter.unusedSimpArgs false
set_option linter.unusedVariables false
theorem bl_le : ∀ a b : List UInt8, (Op.bytesLess a b || a == b) = !Op.bytesLess b a
  | [], [] => rfl
  | [], b :: y => rfl
  | a :: x, [] => rfl
  | a :: x, b :: y => by
    have ih := bl_le x y
    simp only [Op.bytesLess]
    by_cases h1 : a < b
    · have h2 : ¬ b < a := fun h => absurd (UInt8.lt_trans h1 h) (UInt8.lt_irrefl _)
      have h3 : (b == a) = false := by rw [beq_eq_false_iff_ne]; intro h; subst h; exact UInt8.lt_irrefl _ h1
      simp [h1, h2, h3]
    · by_cases h2 : b < a
      · have h3 : (a == b) = false := by rw [beq_eq_false_iff_ne]; intro h; subst h; exact UInt8.lt_irrefl _ h2
        have h4 : ¬ a = b := by simpa using h3
        simp [h1, h2, h4]
      · have h3 : a = b := by
          rw [UInt8.lt_iff_toNat_lt] at h1 h2
          exact UInt8.toNat_inj.1 (by omega)
        subst h3
        simp [UInt8.lt_irrefl] at ih ⊢
        exact ih
/-- A version that is full and not beyond the tail. -/
def upB (te ts e s : Int) : Bool := fullB e s && !lessB te ts e s
def hdB (te ts : Int) (h : GHead) : Bool := nameB h.Name && (upB te ts h.Ver_Epoch h.Ver_Seq && sizeB h.Size h.Sum)
def ltN (a b : ByteArray) : Bool := Op.bytesLess a.toList b.toList
def okH (te ts : Int) (hs : List GHead) (i : Nat) : Bool := match hs[i]? with
  | some h => hdB te ts h && (match i with
    | 0 => true
    | j + 1 => match hs[j]? with
      | some b => ltN b.Name h.Name
      | none => false)
  | none => false
def ltL (te ts : Int) (c : GLast) : Bool := (cliB c.Client && inB c.No 1 1000) && upB te ts c.Ver_Epoch c.Ver_Seq
def okL (te ts : Int) (ls : List GLast) (i : Nat) : Bool := match ls[i]? with
  | some c => ltL te ts c && (match i with
    | 0 => true
    | j + 1 => match ls[j]? with
      | some b => decide (b.Client < c.Client)
      | none => false)
  | none => false
theorem okH_zero {te ts : Int} {hs : List GHead} (h : 0 < hs.length) : okH te ts hs 0 = hdB te ts hs[0] := by
  unfold okH; rw [List.getElem?_eq_getElem h]; simp
theorem okH_succ {te ts : Int} {hs : List GHead} {i : Nat} (h : i < hs.length) (h0 : 0 < i) : okH te ts hs i = (hdB te ts hs[i] && ltN (hs[i - 1]'(by omega)).Name hs[i].Name) := by
  unfold okH
  rw [List.getElem?_eq_getElem h]
  obtain ⟨j, rfl⟩ : ∃ j, i = j + 1 := ⟨i - 1, by omega⟩
  simp [List.getElem?_eq_getElem (show j < hs.length by omega)]
theorem okL_zero {te ts : Int} {ls : List GLast} (h : 0 < ls.length) : okL te ts ls 0 = ltL te ts ls[0] := by
  unfold okL; rw [List.getElem?_eq_getElem h]; simp
theorem okL_succ {te ts : Int} {ls : List GLast} {i : Nat} (h : i < ls.length) (h0 : 0 < i) : okL te ts ls i = (ltL te ts ls[i] && decide ((ls[i - 1]'(by omega)).Client < ls[i].Client)) := by
  unfold okL
  rw [List.getElem?_eq_getElem h]
  obtain ⟨j, rfl⟩ : ∃ j, i = j + 1 := ⟨i - 1, by omega⟩
  simp [List.getElem?_eq_getElem (show j < ls.length by omega)]
def headsA (te ts : Int) (hs : List GHead) : Bool := (List.range hs.length).all (okH te ts hs)
def lastsA (te ts : Int) (ls : List GLast) : Bool := (List.range ls.length).all (okL te ts ls)
set_option maxHeartbeats 4000000 in
theorem upToTail (k : Nat) (p0 p1 se st te ts : Int) (hs : List GHead) (ls : List GLast) (es : List GEntry) (fe fs : Int) (cs : List GChunk) (e s : Int) : call code (k + 5) 89 [psV p0 p1 se st te ts hs ls es fe fs cs, .agg [.int .i64 e, .int .i64 s]] [] = some ⟨.bool (upB te ts e s), [], []⟩ := by
  refine call_run rfl fn89 rfl ?_
  unfold upB fullB
  have h1 := fun k => verOk k e s
  have h2 := fun k => verLess k te ts e s
  cases c1 : verB e s <;> cases c2 : lessB te ts e s <;> cases c3 : e == 0 <;> cases c4 : s == 0 <;> rw [c1] at h1 <;> rw [c2] at h2 <;> simp [F89, rcall66, rcall69, h1, h2, c3, c4]
theorem cli_req (c n : Int) : (reqB c n && !(c == 0 && n == 0)) = (cliB c && inB n 1 1000) := by
  unfold reqB
  cases c1 : (c == 0 && n == 0)
  · simp
  · simp at c1
    obtain ⟨rfl, rfl⟩ := c1
    simp [cliB, inB]
end Go.Ae.GA
