/- The log, by heads: the reference's loop. -/
import Derived.Test.YtiabjkihebhfkaaGreatGBM2
import Derived.Test.YtiabjkihebhfkaaGreatGBM3
namespace Go.Ae.GA.B
set_option linter.unusedSimpArgs false
set_option linter.unusedVariables false
set_option maxRecDepth 100000 in
set_option maxHeartbeats 64000000 in
theorem l17Log (k : Nat) (p0 p1 se st te ts : Int) (hs : List GHead) (ls : List GLast) (es : List GEntry) (fe fs : Int) (cs : List GChunk) (hn : hs.length ≤ 1048576) (hn2 : es.length ≤ 1048576) (hz : ∀ e ∈ es, e.Name.size ≤ 1048576) : call code (k + 6) 101 [psV p0 p1 se st te ts hs ls es fe fs cs] [] = some ⟨.bool (lgB te ts hs es), [], []⟩ := by
  refine call_run rfl fn101 rfl ?_
  have hrl := rws_len (enc := GEntry.enc) es
  have hgx : ∀ i (hi : i < es.length) (hh : i < (rws GEntry.enc es).length), (rws GEntry.enc es)[i]'hh = GEntry.enc es[i] := fun i hi hh => rws_get ..
  unfold psV at *
  generalize rws GEntry.enc es = ES at *
  generalize rws GLast.enc ls = LS at *
  generalize rws GChunk.enc cs = CS at *
  simp [F101]
  refine RunC_loop (fun i : Nat => match i with
    | 0 => ⟨tm 48 [(1, .ptr 0 0 0 [] 0 0), (3, .ptr 0 66048 0 [] 0 0), (4, .rd true (rws GHead.enc hs)), (5, .int .i64 0)], [(0, some ⟨0, 12, true, false, [[.int .i64 p0, .int .i64 p1, .int .i64 se, .int .i64 st, .int .i64 te, .int .i64 ts, .rd true (rws GHead.enc hs), .rd true LS, .rd true ES, .int .i64 fe, .int .i64 fs, .rd true CS]]⟩), (66048, some ⟨0, 2, true, false, [[.int .i64 te, .int .i64 ts]]⟩)], []⟩
    | i + 1 => ⟨tm 48 [(1, .ptr 0 0 0 [] 0 0), (3, .ptr 0 66048 0 [] 0 0), (4, .sl 0 131328 0 [] 0 (hdI hs es (i + 1)).length), (5, .int .i64 ((i + 1 : Nat) : Int))], [(0, some ⟨0, 12, true, false, [[.int .i64 p0, .int .i64 p1, .int .i64 se, .int .i64 st, .int .i64 te, .int .i64 ts, .rd true (rws GHead.enc hs), .rd true LS, .rd true ES, .int .i64 fe, .int .i64 fs, .rd true CS]]⟩), (66048, some ⟨0, 2, true, false, [[.int .i64 (prE te (·.Ver_Epoch) es (i + 1)), .int .i64 (prE ts (·.Ver_Seq) es (i + 1))]]⟩), (131328, some ⟨0, 5, false, true, rws GHead.enc (hdI hs es (i + 1))⟩)], []⟩)
    (fun i => i ≤ es.length ∧ i ≤ 25 ∧ ∀ j, j < i → okE te ts hs es j = true) (fun i => es.length - i) 0 ⟨by omega, by omega, by omega⟩ (by simp; omega) (by simp [tm]) fun i hi _ => ?_
  obtain ⟨hi, hi25, h0⟩ := hi
  have exitT : i = es.length → lgB te ts hs es = decide ((es.length : Int) ≤ 24) := fun h => by
    subst h
    unfold lgB; rw [range_all.2 h0]; rfl
  have exitF : 24 < i → lgB te ts hs es = false := fun h => by unfold lgB; rw [show decide ((es.length : Int) ≤ 24) = false from decide_eq_false (by omega)]; simp
  have stop : ∀ h : i < es.length, okE te ts hs es i = false → lgB te ts hs es = false := fun hlt h => by unfold lgB; rw [range_false hlt h]; rfl
  have hpl : ∀ m, (hdI hs es m).length ≤ hs.length + m := hdI_le hs es
  rcases i with _ | i
  · by_cases hlt : 0 < es.length
    · by_cases h24 : 24 < 0
      · omega
      have w01 : IntKind.wrap .i64 1 = 1 := wrap64 ⟨by omega, by omega⟩
      have hg := hgx _ hlt
      have ok := okE_at (te := te) (ts := ts) (hs := hs) hlt
      have eo := fun k => entryOkS k es[0].Ver_Epoch es[0].Ver_Seq es[0].Prior_Epoch es[0].Prior_Seq es[0].Name es[0].Gone es[0].Size es[0].Sum es[0].Req_Client es[0].Req_No (hz _ (List.getElem_mem hlt))
      have et : entB ⟨es[0].Ver_Epoch, es[0].Ver_Seq, es[0].Prior_Epoch, es[0].Prior_Seq, es[0].Name, es[0].Gone, es[0].Size, es[0].Sum, es[0].Req_Client, es[0].Req_No⟩ = entB (toEnt es[0]) := rfl
      have hl0 := hpl (0)
      have hl1 := hpl (0 + 1)
      have pu := fun k => l17Put k (hdI hs es (0)) es[0] (by omega)
      rw [← hdI_succ hlt] at pu
      have pv1 : prE te (·.Ver_Epoch) es (0 + 1) = es[0].Ver_Epoch := by simp only [prE]; rw [List.getElem?_eq_getElem hlt]
      have pv2 : prE ts (·.Ver_Seq) es (0 + 1) = es[0].Ver_Seq := by simp only [prE]; rw [List.getElem?_eq_getElem hlt]
      have hq := List.getElem?_eq_getElem (l := ES) (i := 0) (by omega)
      rw [hg] at hq
      have kp := tkE (enc := GHead.enc) (l := hdI hs es (0 + 1)) rfl
      have rp := rws_len (enc := GHead.enc) (hdI hs es (0 + 1))
      have k0 := tkE (enc := GHead.enc) (l := hs) rfl
      have h00 : hdI hs es 0 = hs := rfl
      rw [h00] at pu
      simp only [Nat.zero_add] at *
      simp only [GEntry.enc] at hg hq pu
      rw [et] at eo
      cases c1 : entB (toEnt es[0])
      · rw [c1] at eo ok
        have hst := stop hlt (by rw [ok]; rfl)
        simp [tm, hlt, hrl, hq, hg, storeM, w01, rcall174, eo, hst]
      rw [c1] at eo
      cases c2 : es[0].Prior_Epoch == te
      · have c2' : es[0].Prior_Epoch ≠ te := by simpa using c2
        have hst := stop hlt (by rw [ok]; simp [c2', prE])
        simp [tm, hlt, hrl, hq, hg, storeM, w01, rcall174, eo, c2, hst]
      cases c3 : es[0].Prior_Seq == ts
      · have c3' : es[0].Prior_Seq ≠ ts := by simpa using c3
        have hst := stop hlt (by rw [ok]; simp [c3', prE])
        simp [tm, hlt, hrl, hq, hg, storeM, w01, rcall174, eo, c2, c3, hst]
      have c2' : es[0].Prior_Epoch = te := by simpa using c2
      have c3' : es[0].Prior_Seq = ts := by simpa using c3
      by_cases c4 : (hdI hs es (0 + 1)).length ≤ 16
      · have hok : okE te ts hs es (0) = true := by rw [ok, c1]; simp [c2', c3', c4, prE]
        have c5 : ¬ 16 < (hdI hs es (0 + 1)).length := by omega
        have c6 : ¬ (16 : Int) < ((hdI hs es (0 + 1)).length : Int) := by omega
        simp [tm, hlt, hrl, hq, hg, storeM, w01, rcall174, eo, c2, c3, rcall175, pu, kp, rp, c5, c6]
        refine ⟨0 + 1, ⟨by omega, by omega, fun j hj => ?_⟩, by omega, ?_⟩
        · rcases Nat.lt_succ_iff_lt_or_eq.1 hj with h1 | rfl
          · exact h0 j h1
          · exact hok
        · simp [tm, pv1, pv2, w01]
      · have hst := stop hlt (by rw [ok, c1]; simp [c4])
        have c5 : 16 < (hdI hs es (0 + 1)).length := by omega
        have c6 : (16 : Int) < ((hdI hs es (0 + 1)).length : Int) := by omega
        simp [tm, hlt, hrl, hq, hg, storeM, w01, rcall174, eo, c2, c3, rcall175, pu, kp, rp, c5, c6, hst]
    · have he : 0 = es.length := by omega
      have e := exitT he
      have hz0 : es.length = 0 := he.symm
      rw [e]
      simp [tm, hrl, hz0]
  · by_cases hlt : i + 1 < es.length
    · by_cases h24 : 24 < i + 1
      · have e := exitF h24
        have hlt2 : (i : Int) + 1 < es.length := by omega
        have d2 : ¬ ((i : Int) + 1 ≤ 24) := by omega
        have d3 : ¬ (es.length : Int) ≤ 24 := by omega
        have d4 : ¬ es.length ≤ 24 := by omega
        rw [e]
        simp [tm, hlt, hlt2, hrl, d2, d3, d4]
      have d24 : (i : Int) + 1 ≤ 24 := by omega
      have hg := hgx _ hlt
      have ok := okE_at (te := te) (ts := ts) (hs := hs) hlt
      have eo := fun k => entryOkS k es[i + 1].Ver_Epoch es[i + 1].Ver_Seq es[i + 1].Prior_Epoch es[i + 1].Prior_Seq es[i + 1].Name es[i + 1].Gone es[i + 1].Size es[i + 1].Sum es[i + 1].Req_Client es[i + 1].Req_No (hz _ (List.getElem_mem hlt))
      have et : entB ⟨es[i + 1].Ver_Epoch, es[i + 1].Ver_Seq, es[i + 1].Prior_Epoch, es[i + 1].Prior_Seq, es[i + 1].Name, es[i + 1].Gone, es[i + 1].Size, es[i + 1].Sum, es[i + 1].Req_Client, es[i + 1].Req_No⟩ = entB (toEnt es[i + 1]) := rfl
      have hl0 := hpl (i + 1)
      have hl1 := hpl (i + 1 + 1)
      have pu := fun k => l17Put k (hdI hs es (i + 1)) es[i + 1] (by omega)
      rw [← hdI_succ hlt] at pu
      have pv1 : prE te (·.Ver_Epoch) es (i + 1 + 1) = es[i + 1].Ver_Epoch := by simp only [prE]; rw [List.getElem?_eq_getElem hlt]
      have pv2 : prE ts (·.Ver_Seq) es (i + 1 + 1) = es[i + 1].Ver_Seq := by simp only [prE]; rw [List.getElem?_eq_getElem hlt]
      have hq := List.getElem?_eq_getElem (l := ES) (i := i + 1) (by omega)
      rw [hg] at hq
      have kp := tkE (enc := GHead.enc) (l := hdI hs es (i + 1 + 1)) rfl
      have rp := rws_len (enc := GHead.enc) (hdI hs es (i + 1 + 1))
      have k0 := tkE (enc := GHead.enc) (l := hdI hs es (i + 1)) rfl
      have r0 := rws_len (enc := GHead.enc) (hdI hs es (i + 1))
      have ws : IntKind.wrap .i64 ((i : Int) + 1 + 1) = (i : Int) + 1 + 1 := wrap64 ⟨by omega, by omega⟩
      have hlt2 : (i : Int) + 1 < es.length := by omega
      have q0 : (0 : Int) ≤ (i : Int) + 1 := by omega
      simp only [GEntry.enc] at hg hq pu
      rw [et] at eo
      cases c1 : entB (toEnt es[i + 1])
      · rw [c1] at eo ok
        have hst := stop hlt (by rw [ok]; rfl)
        simp [tm, hlt, hlt2, q0, hrl, hq, hg, storeM, d24, k0, r0, ws, rcall174, eo, hst]
      rw [c1] at eo
      cases c2 : es[i + 1].Prior_Epoch == prE te (·.Ver_Epoch) es (i + 1)
      · have c2' : es[i + 1].Prior_Epoch ≠ prE te (·.Ver_Epoch) es (i + 1) := by simpa using c2
        have hst := stop hlt (by rw [ok]; simp [c2'])
        simp [tm, hlt, hlt2, q0, hrl, hq, hg, storeM, d24, k0, r0, ws, rcall174, eo, c2, hst]
      cases c3 : es[i + 1].Prior_Seq == prE ts (·.Ver_Seq) es (i + 1)
      · have c3' : es[i + 1].Prior_Seq ≠ prE ts (·.Ver_Seq) es (i + 1) := by simpa using c3
        have hst := stop hlt (by rw [ok]; simp [c3'])
        simp [tm, hlt, hlt2, q0, hrl, hq, hg, storeM, d24, k0, r0, ws, rcall174, eo, c2, c3, hst]
      have c2' : es[i + 1].Prior_Epoch = prE te (·.Ver_Epoch) es (i + 1) := by simpa using c2
      have c3' : es[i + 1].Prior_Seq = prE ts (·.Ver_Seq) es (i + 1) := by simpa using c3
      by_cases c4 : (hdI hs es (i + 1 + 1)).length ≤ 16
      · have hok : okE te ts hs es (i + 1) = true := by rw [ok, c1]; simp [c2', c3', c4]
        have c5 : ¬ 16 < (hdI hs es (i + 1 + 1)).length := by omega
        have c6 : ¬ (16 : Int) < ((hdI hs es (i + 1 + 1)).length : Int) := by omega
        simp [tm, hlt, hlt2, q0, hrl, hq, hg, storeM, d24, k0, r0, ws, rcall174, eo, c2, c3, rcall175, pu, kp, rp, c5, c6]
        refine ⟨i + 1 + 1, ⟨by omega, by omega, fun j hj => ?_⟩, by omega, ?_⟩
        · rcases Nat.lt_succ_iff_lt_or_eq.1 hj with h1 | rfl
          · exact h0 j h1
          · exact hok
        · simp [tm, pv1, pv2, ws]
      · have hst := stop hlt (by rw [ok, c1]; simp [c4])
        have c5 : 16 < (hdI hs es (i + 1 + 1)).length := by omega
        have c6 : (16 : Int) < ((hdI hs es (i + 1 + 1)).length : Int) := by omega
        simp [tm, hlt, hlt2, q0, hrl, hq, hg, storeM, d24, k0, r0, ws, rcall174, eo, c2, c3, rcall175, pu, kp, rp, c5, c6, hst]
    · have he : i + 1 = es.length := by omega
      have e := exitT he
      rw [e]
      have hlt2 : ¬ ((i : Int) + 1 < es.length) := by omega
      simp [tm, hrl, hlt, hlt2]
end Go.Ae.GA.B
namespace Go.Ae.GA.B
set_option linter.unusedSimpArgs false
set_option linter.unusedVariables false
theorem bl_le : ∀ a b : List UInt8, (Op.bytesLess a b || a == b) = !Op.bytesLess b a
  | [], [] => rfl
  | [], b :: y => rfl
  | a :: x, [] => rfl
  | a :: x, b :: y => by
    have ih := bl_le x y
    simp only [Op.bytesLess]
    by_cases h1 : a < b
    · have h2 : ¬ b < a := fun h => absurd (UInt8.lt_trans h1 h) (UInt8.lt_irrefl _)
      have h3 : (b == a) = false := by rw [beq_eq_false_iff_ne]; intro h; subst h; exact UInt8.lt_irrefl _ h1
      simp [h1, h2, h3]
    · by_cases h2 : b < a
      · have h3 : (a == b) = false := by rw [beq_eq_false_iff_ne]; intro h; subst h; exact UInt8.lt_irrefl _ h2
        have h4 : ¬ a = b := by simpa using h3
        simp [h1, h2, h4]
      · have h3 : a = b := by
          rw [UInt8.lt_iff_toNat_lt] at h1 h2
          exact UInt8.toNat_inj.1 (by omega)
        subst h3
        simp [UInt8.lt_irrefl] at ih ⊢
        exact ih
/-- A version that is full and not beyond the tail. -/
def upB (te ts e s : Int) : Bool := fullB e s && !lessB te ts e s
def hdB (te ts : Int) (h : GHead) : Bool := nameB h.Name && (upB te ts h.Ver_Epoch h.Ver_Seq && sizeB h.Size h.Sum)
def ltN (a b : ByteArray) : Bool := Op.bytesLess a.toList b.toList
def okH (te ts : Int) (hs : List GHead) (i : Nat) : Bool := match hs[i]? with
  | some h => hdB te ts h && (match i with
    | 0 => true
    | j + 1 => match hs[j]? with
      | some b => ltN b.Name h.Name
      | none => false)
  | none => false
def ltL (te ts : Int) (c : GLast) : Bool := (cliB c.Client && inB c.No 1 1000) && upB te ts c.Ver_Epoch c.Ver_Seq
def okL (te ts : Int) (ls : List GLast) (i : Nat) : Bool := match ls[i]? with
  | some c => ltL te ts c && (match i with
    | 0 => true
    | j + 1 => match ls[j]? with
      | some b => decide (b.Client < c.Client)
      | none => false)
  | none => false
theorem okH_zero {te ts : Int} {hs : List GHead} (h : 0 < hs.length) : okH te ts hs 0 = hdB te ts hs[0] := by
  unfold okH; rw [List.getElem?_eq_getElem h]; simp
theorem okH_succ {te ts : Int} {hs : List GHead} {i : Nat} (h : i < hs.length) (h0 : 0 < i) : okH te ts hs i = (hdB te ts hs[i] && ltN (hs[i - 1]'(by omega)).Name hs[i].Name) := by
  unfold okH
  rw [List.getElem?_eq_getElem h]
  obtain ⟨j, rfl⟩ : ∃ j, i = j + 1 := ⟨i - 1, by omega⟩
  simp [List.getElem?_eq_getElem (show j < hs.length by omega)]
theorem okL_zero {te ts : Int} {ls : List GLast} (h : 0 < ls.length) : okL te ts ls 0 = ltL te ts ls[0] := by
  unfold okL; rw [List.getElem?_eq_getElem h]; simp
theorem okL_succ {te ts : Int} {ls : List GLast} {i : Nat} (h : i < ls.length) (h0 : 0 < i) : okL te ts ls i = (ltL te ts ls[i] && decide ((ls[i - 1]'(by omega)).Client < ls[i].Client)) := by
  unfold okL
  rw [List.getElem?_eq_getElem h]
  obtain ⟨j, rfl⟩ : ∃ j, i = j + 1 := ⟨i - 1, by omega⟩
  simp [List.getElem?_eq_getElem (show j < ls.length by omega)]
def headsA (te ts : Int) (hs : List GHead) : Bool := (List.range hs.length).all (okH te ts hs)
def lastsA (te ts : Int) (ls : List GLast) : Bool := (List.range ls.length).all (okL te ts ls)
set_option maxHeartbeats 4000000 in
theorem upToTail (k : Nat) (p0 p1 se st te ts : Int) (hs : List GHead) (ls : List GLast) (es : List GEntry) (fe fs : Int) (cs : List GChunk) (e s : Int) : call code (k + 5) 207 [psV p0 p1 se st te ts hs ls es fe fs cs, .agg [.int .i64 e, .int .i64 s]] [] = some ⟨.bool (upB te ts e s), [], []⟩ := by
  refine call_run rfl fn207 rfl ?_
  unfold upB fullB
  have h1 := fun k => verOk k e s
  have h2 := fun k => verLess k te ts e s
  cases c1 : verB e s <;> cases c2 : lessB te ts e s <;> cases c3 : e == 0 <;> cases c4 : s == 0 <;> rw [c1] at h1 <;> rw [c2] at h2 <;> simp [F207, rcall143, rcall38, h1, h2, c3, c4]
theorem cli_req (c n : Int) : (reqB c n && !(c == 0 && n == 0)) = (cliB c && inB n 1 1000) := by
  unfold reqB
  cases c1 : (c == 0 && n == 0)
  · simp
  · simp at c1
    obtain ⟨rfl, rfl⟩ := c1
    simp [cliB, inB]
end Go.Ae.GA.B
namespace Go.Ae.GA.B
set_option linter.unusedSimpArgs false
set_option linter.unusedVariables false
set_option maxRecDepth 100000 in
set_option maxHeartbeats 32000000 in
theorem l17Heads (k : Nat) (te ts : Int) (xs : List GHead) (hn : xs.length ≤ 1048576) (hz : ∀ c ∈ xs, c.Name.size ≤ 1048576) : call code (k + 6) 99 [.rd true (rws GHead.enc xs), .agg [.int .i64 te, .int .i64 ts]] [] = some ⟨.bool (headsA te ts xs && decide ((xs.length : Int) ≤ 16)), [], []⟩ := by
  refine call_run rfl fn99 rfl ?_
  simp [F99]
  refine RunC_loop (fun i : Nat => ⟨tm 67 [(0, .rd true (rws GHead.enc xs)), (3, .ptr 0 0 0 [] 0 0), (5, .int .i64 i)], [(0, some ⟨0, 2, true, false, [[.int .i64 te, .int .i64 ts]]⟩)], []⟩)
    (fun i => i ≤ xs.length ∧ ∀ j, j < i → okH te ts xs j = true) (fun i => xs.length - i) 0 ⟨by omega, by omega⟩ (by simp; omega) (by simp [tm]) fun i hi _ => ?_
  obtain ⟨hi, h0⟩ := hi
  have hrl := rws_len (enc := GHead.enc) xs
  by_cases hlt0 : 16 < i
  · have e : (headsA te ts xs && decide ((xs.length : Int) ≤ 16)) = false := by rw [show decide ((xs.length : Int) ≤ 16) = false from decide_eq_false (by omega)]; simp
    have d1 : ¬ (i : Int) ≤ 16 := by omega
    have d2 : ¬ (xs.length : Int) ≤ 16 := by omega
    have d3 : ¬ i ≤ 16 := by omega
    have d4 : ¬ xs.length ≤ 16 := by omega
    rw [e]
    by_cases hlt : i < xs.length <;> simp [tm, hlt, hrl, d1, d2, d3, d4]
  have d1 : (i : Int) ≤ 16 := by omega
  by_cases hlt : i < xs.length
  · have hs' := idx_succ' hlt (by omega)
    have hg : ∀ hh, (rws GHead.enc xs)[i]'hh = GHead.enc xs[i] := fun hh => rws_get ..
    have next : okH te ts xs i = true → ∃ a, (a ≤ xs.length ∧ ∀ j, j < a → okH te ts xs j = true) ∧ xs.length - a < xs.length - i ∧ ((i + 1 : Nat) : Int) = (a : Int) := fun h => ⟨i + 1, ⟨by omega, fun j hj => by
      rcases Nat.lt_succ_iff_lt_or_eq.1 hj with h1 | rfl
      · exact h0 j h1
      · exact h⟩, by omega, rfl⟩
    have stop : okH te ts xs i = false → (headsA te ts xs && decide ((xs.length : Int) ≤ 16)) = false := fun h => by unfold headsA; rw [range_false hlt h]; rfl
    have e0 : i = 0 → okH te ts xs i = hdB te ts xs[i] := fun h => by subst h; exact okH_zero hlt
    have e1 : 0 < i → okH te ts xs i = (hdB te ts xs[i] && ltN (xs[i - 1]'(by omega)).Name xs[i].Name) := fun h => okH_succ hlt h
    have hg2 : 0 < i → ∀ hh, (rws GHead.enc xs)[i - 1]'hh = GHead.enc (xs[i - 1]'(by omega)) := fun _ hh => rws_get ..
    have w1 : 0 < i → IntKind.wrap .i64 ((i : Int) - 1) = ((i - 1 : Nat) : Int) := fun _ => by rw [wrap64 ⟨by omega, by omega⟩]; omega
    have hi1 : i - 1 < xs.length := by omega
    unfold hdB at e0 e1
    have k1 := fun k => specNameOk k xs[i].Name (hz _ (List.getElem_mem hlt))
    have k2 := fun k => l17Full k xs[i].Ver_Epoch xs[i].Ver_Seq
    have k3 := fun k => verLessS k te ts xs[i].Ver_Epoch xs[i].Ver_Seq
    have k4 := fun k => l00In k xs[i].Size 0 64
    have k5 := fun k => l17Sum k xs[i].Sum
    unfold upB sizeB at e0 e1
    unfold ltN at e1
    simp only [GHead.enc] at hg hg2
    rcases Nat.eq_zero_or_pos i with hz0 | hi0
    · have e := e0 hz0
      subst hz0
      have w01 : IntKind.wrap .i64 1 = 1 := wrap64 ⟨by omega, by omega⟩
      cases c0 : nameB xs[0].Name
      · rw [c0] at k1
        have hst := stop (by rw [e]; simp [c0])
        simp [tm, hlt, d1, hg, storeM, rcall157, rcall158, rcall83, rcall97, rcall159, k1, hst]
      rw [c0] at k1
      cases c1 : fullB xs[0].Ver_Epoch xs[0].Ver_Seq
      · rw [c1] at k2
        have hst := stop (by rw [e]; simp [c0, c1])
        simp [tm, hlt, d1, hg, storeM, rcall157, rcall158, rcall83, rcall97, rcall159, k1, k2, hst]
      rw [c1] at k2
      cases c2 : lessB te ts xs[0].Ver_Epoch xs[0].Ver_Seq
      rotate_left
      · rw [c2] at k3
        have hst := stop (by rw [e]; simp [c0, c1, c2])
        simp [tm, hlt, d1, hg, storeM, rcall157, rcall158, rcall83, rcall97, rcall159, k1, k2, k3, hst]
      rw [c2] at k3
      cases c3 : inB xs[0].Size 0 64
      · rw [c3] at k4
        have hst := stop (by rw [e]; simp [c0, c1, c2, c3])
        simp [tm, hlt, d1, hg, storeM, rcall157, rcall158, rcall83, rcall97, rcall159, k1, k2, k3, k4, hst]
      rw [c3] at k4
      cases c4 : sumB xs[0].Sum
      · rw [c4] at k5
        have hst := stop (by rw [e]; simp [c0, c1, c2, c3, c4])
        simp [tm, hlt, d1, hg, storeM, rcall157, rcall158, rcall83, rcall97, rcall159, k1, k2, k3, k4, k5, hst]
      rw [c4] at k5
      have hnx := next (by rw [e]; simp [c0, c1, c2, c3, c4])
      simp [tm, hlt, d1, hg, storeM, rcall157, rcall158, rcall83, rcall97, rcall159, k1, k2, k3, k4, k5, w01]
      simpa using hnx
    · have e := e1 hi0
      have hg3 := hg2 hi0
      have w2 := w1 hi0
      cases c0 : nameB xs[i].Name
      · rw [c0] at k1
        have hst := stop (by rw [e]; simp [c0])
        simp [tm, hlt, d1, hg, hg3, w2, hi0, hi1, hrl, storeM, rcall157, rcall158, rcall83, rcall97, rcall159, k1, hst]
      rw [c0] at k1
      cases c1 : Op.bytesLess (xs[i - 1]'(by omega)).Name.toList xs[i].Name.toList
      · skip
        have hst := stop (by rw [e]; simp [c0, c1])
        simp [tm, hlt, d1, hg, hg3, w2, hi0, hi1, hrl, storeM, rcall157, rcall158, rcall83, rcall97, rcall159, k1, c1, hst]
      skip
      cases c2 : fullB xs[i].Ver_Epoch xs[i].Ver_Seq
      · rw [c2] at k2
        have hst := stop (by rw [e]; simp [c0, c1, c2])
        simp [tm, hlt, d1, hg, hg3, w2, hi0, hi1, hrl, storeM, rcall157, rcall158, rcall83, rcall97, rcall159, k1, c1, k2, hst]
      rw [c2] at k2
      cases c3 : lessB te ts xs[i].Ver_Epoch xs[i].Ver_Seq
      rotate_left
      · rw [c3] at k3
        have hst := stop (by rw [e]; simp [c0, c1, c2, c3])
        simp [tm, hlt, d1, hg, hg3, w2, hi0, hi1, hrl, storeM, rcall157, rcall158, rcall83, rcall97, rcall159, k1, c1, k2, k3, hst]
      rw [c3] at k3
      cases c4 : inB xs[i].Size 0 64
      · rw [c4] at k4
        have hst := stop (by rw [e]; simp [c0, c1, c2, c3, c4])
        simp [tm, hlt, d1, hg, hg3, w2, hi0, hi1, hrl, storeM, rcall157, rcall158, rcall83, rcall97, rcall159, k1, c1, k2, k3, k4, hst]
      rw [c4] at k4
      cases c5 : sumB xs[i].Sum
      · rw [c5] at k5
        have hst := stop (by rw [e]; simp [c0, c1, c2, c3, c4, c5])
        simp [tm, hlt, d1, hg, hg3, w2, hi0, hi1, hrl, storeM, rcall157, rcall158, rcall83, rcall97, rcall159, k1, c1, k2, k3, k4, k5, hst]
      rw [c5] at k5
      have hnx := next (by rw [e]; simp [c0, c1, c2, c3, c4, c5])
      simp [tm, hlt, d1, hg, hg3, w2, hi0, hi1, hrl, storeM, rcall157, rcall158, rcall83, rcall97, rcall159, k1, c1, k2, k3, k4, k5, hs']
      simpa using hnx
  · have : i = xs.length := by omega
    subst this
    have e : headsA te ts xs = true := range_all.2 h0
    rw [e, Bool.true_and]
    simp [tm, d1, hrl]
set_option maxRecDepth 100000 in
set_option maxHeartbeats 32000000 in
theorem l17Lasts (k : Nat) (te ts : Int) (xs : List GLast) (hn : xs.length ≤ 1048576) : call code (k + 6) 100 [.rd true (rws GLast.enc xs), .agg [.int .i64 te, .int .i64 ts]] [] = some ⟨.bool (lastsA te ts xs && decide ((xs.length : Int) ≤ 6)), [], []⟩ := by
  refine call_run rfl fn100 rfl ?_
  simp [F100]
  refine RunC_loop (fun i : Nat => ⟨tm 61 [(0, .rd true (rws GLast.enc xs)), (3, .ptr 0 0 0 [] 0 0), (5, .int .i64 i)], [(0, some ⟨0, 2, true, false, [[.int .i64 te, .int .i64 ts]]⟩)], []⟩)
    (fun i => i ≤ xs.length ∧ ∀ j, j < i → okL te ts xs j = true) (fun i => xs.length - i) 0 ⟨by omega, by omega⟩ (by simp; omega) (by simp [tm]) fun i hi _ => ?_
  obtain ⟨hi, h0⟩ := hi
  have hrl := rws_len (enc := GLast.enc) xs
  by_cases hlt0 : 6 < i
  · have e : (lastsA te ts xs && decide ((xs.length : Int) ≤ 6)) = false := by rw [show decide ((xs.length : Int) ≤ 6) = false from decide_eq_false (by omega)]; simp
    have d1 : ¬ (i : Int) ≤ 6 := by omega
    have d2 : ¬ (xs.length : Int) ≤ 6 := by omega
    have d3 : ¬ i ≤ 6 := by omega
    have d4 : ¬ xs.length ≤ 6 := by omega
    rw [e]
    by_cases hlt : i < xs.length <;> simp [tm, hlt, hrl, d1, d2, d3, d4]
  have d1 : (i : Int) ≤ 6 := by omega
  by_cases hlt : i < xs.length
  · have hs' := idx_succ' hlt (by omega)
    have hg : ∀ hh, (rws GLast.enc xs)[i]'hh = GLast.enc xs[i] := fun hh => rws_get ..
    have next : okL te ts xs i = true → ∃ a, (a ≤ xs.length ∧ ∀ j, j < a → okL te ts xs j = true) ∧ xs.length - a < xs.length - i ∧ ((i + 1 : Nat) : Int) = (a : Int) := fun h => ⟨i + 1, ⟨by omega, fun j hj => by
      rcases Nat.lt_succ_iff_lt_or_eq.1 hj with h1 | rfl
      · exact h0 j h1
      · exact h⟩, by omega, rfl⟩
    have stop : okL te ts xs i = false → (lastsA te ts xs && decide ((xs.length : Int) ≤ 6)) = false := fun h => by unfold lastsA; rw [range_false hlt h]; rfl
    have e0 : i = 0 → okL te ts xs i = ltL te ts xs[i] := fun h => by subst h; exact okL_zero hlt
    have e1 : 0 < i → okL te ts xs i = (ltL te ts xs[i] && decide ((xs[i - 1]'(by omega)).Client < xs[i].Client)) := fun h => okL_succ hlt h
    have hg2 : 0 < i → ∀ hh, (rws GLast.enc xs)[i - 1]'hh = GLast.enc (xs[i - 1]'(by omega)) := fun _ hh => rws_get ..
    have w1 : 0 < i → IntKind.wrap .i64 ((i : Int) - 1) = ((i - 1 : Nat) : Int) := fun _ => by rw [wrap64 ⟨by omega, by omega⟩]; omega
    have hi1 : i - 1 < xs.length := by omega
    unfold ltL at e0 e1
    have k1 := fun k => l17Client k xs[i].Client
    have k2 := fun k => l17Full k xs[i].Ver_Epoch xs[i].Ver_Seq
    have k3 := fun k => verLessS k te ts xs[i].Ver_Epoch xs[i].Ver_Seq
    have k4 := fun k => l00In k xs[i].No 1 1000
    unfold upB at e0 e1
    simp only [GLast.enc] at hg hg2
    rcases Nat.eq_zero_or_pos i with hz0 | hi0
    · have e := e0 hz0
      subst hz0
      have w01 : IntKind.wrap .i64 1 = 1 := wrap64 ⟨by omega, by omega⟩
      cases c0 : cliB xs[0].Client
      · rw [c0] at k1
        have hst := stop (by rw [e]; simp [c0])
        simp [tm, hlt, d1, hg, storeM, rcall173, rcall158, rcall83, rcall97, k1, hst]
      rw [c0] at k1
      cases c1 : inB xs[0].No 1 1000
      · rw [c1] at k4
        have hst := stop (by rw [e]; simp [c0, c1])
        simp [tm, hlt, d1, hg, storeM, rcall173, rcall158, rcall83, rcall97, k1, k4, hst]
      rw [c1] at k4
      cases c2 : fullB xs[0].Ver_Epoch xs[0].Ver_Seq
      · rw [c2] at k2
        have hst := stop (by rw [e]; simp [c0, c1, c2])
        simp [tm, hlt, d1, hg, storeM, rcall173, rcall158, rcall83, rcall97, k1, k4, k2, hst]
      rw [c2] at k2
      cases c3 : lessB te ts xs[0].Ver_Epoch xs[0].Ver_Seq
      rotate_left
      · rw [c3] at k3
        have hst := stop (by rw [e]; simp [c0, c1, c2, c3])
        simp [tm, hlt, d1, hg, storeM, rcall173, rcall158, rcall83, rcall97, k1, k4, k2, k3, hst]
      rw [c3] at k3
      have hnx := next (by rw [e]; simp [c0, c1, c2, c3])
      simp [tm, hlt, d1, hg, storeM, rcall173, rcall158, rcall83, rcall97, k1, k4, k2, k3, w01]
      simpa using hnx
    · have e := e1 hi0
      have hg3 := hg2 hi0
      have w2 := w1 hi0
      have hge : decide (xs[i].Client ≤ (xs[i - 1]'(by omega)).Client) = !decide ((xs[i - 1]'(by omega)).Client < xs[i].Client) := by
        by_cases h : (xs[i - 1]'(by omega)).Client < xs[i].Client
        · have : ¬ xs[i].Client ≤ (xs[i - 1]'(by omega)).Client := by omega
          simp [h, this]
        · have : xs[i].Client ≤ (xs[i - 1]'(by omega)).Client := by omega
          simp [h, this]
      cases c0 : cliB xs[i].Client
      · rw [c0] at k1
        have hst := stop (by rw [e]; simp [c0])
        simp [tm, hlt, d1, hg, hg3, w2, hi0, hi1, hrl, storeM, rcall173, rcall158, rcall83, rcall97, k1, hst]
      rw [c0] at k1
      cases c1 : decide ((xs[i - 1]'(by omega)).Client < xs[i].Client)
      · rw [c1] at hge
        have hst := stop (by rw [e]; simp [c0, c1])
        simp [tm, hlt, d1, hg, hg3, w2, hi0, hi1, hrl, storeM, rcall173, rcall158, rcall83, rcall97, k1, hge, hst]
      rw [c1] at hge
      cases c2 : inB xs[i].No 1 1000
      · rw [c2] at k4
        have hst := stop (by rw [e]; simp [c0, c1, c2])
        simp [tm, hlt, d1, hg, hg3, w2, hi0, hi1, hrl, storeM, rcall173, rcall158, rcall83, rcall97, k1, hge, k4, hst]
      rw [c2] at k4
      cases c3 : fullB xs[i].Ver_Epoch xs[i].Ver_Seq
      · rw [c3] at k2
        have hst := stop (by rw [e]; simp [c0, c1, c2, c3])
        simp [tm, hlt, d1, hg, hg3, w2, hi0, hi1, hrl, storeM, rcall173, rcall158, rcall83, rcall97, k1, hge, k4, k2, hst]
      rw [c3] at k2
      cases c4 : lessB te ts xs[i].Ver_Epoch xs[i].Ver_Seq
      rotate_left
      · rw [c4] at k3
        have hst := stop (by rw [e]; simp [c0, c1, c2, c3, c4])
        simp [tm, hlt, d1, hg, hg3, w2, hi0, hi1, hrl, storeM, rcall173, rcall158, rcall83, rcall97, k1, hge, k4, k2, k3, hst]
      rw [c4] at k3
      have hnx := next (by rw [e]; simp [c0, c1, c2, c3, c4])
      simp [tm, hlt, d1, hg, hg3, w2, hi0, hi1, hrl, storeM, rcall173, rcall158, rcall83, rcall97, k1, hge, k4, k2, k3, hs']
      simpa using hnx
  · have : i = xs.length := by omega
    subst this
    have e : lastsA te ts xs = true := range_all.2 h0
    rw [e, Bool.true_and]
    simp [tm, d1, hrl]
end Go.Ae.GA.B
namespace Go.Ae.GA.B
set_option linter.unusedSimpArgs false
set_option linter.unusedVariables false
def baseB (te ts : Int) (hs : List GHead) (ls : List GLast) : Bool := headsA te ts hs && (lastsA te ts ls && (decide ((hs.length : Int) ≤ 16) && decide ((ls.length : Int) ≤ 6)))
set_option maxRecDepth 100000 in
set_option maxHeartbeats 64000000 in
theorem baseOk (k : Nat) (p0 p1 se st te ts : Int) (xs : List GHead) (ys : List GLast) (es : List GEntry) (fe fs : Int) (cs : List GChunk) (hn : xs.length ≤ 1048576) (hn2 : ys.length ≤ 1048576) (hz : ∀ c ∈ xs, c.Name.size ≤ 1048576) : call code (k + 6) 144 [psV p0 p1 se st te ts xs ys es fe fs cs] [] = some ⟨.bool (baseB te ts xs ys), [], []⟩ := by
  refine call_run rfl fn144 rfl ?_
  have up := fun k e s => upToTail k p0 p1 se st te ts xs ys es fe fs cs e s
  have hrl := rws_len (enc := GHead.enc) xs
  have hrl2 := rws_len (enc := GLast.enc) ys
  have hgx : ∀ i (hi : i < xs.length) (hh : i < (rws GHead.enc xs).length), (rws GHead.enc xs)[i]'hh = GHead.enc xs[i] := fun i hi hh => rws_get ..
  have hgy : ∀ i (hi : i < ys.length) (hh : i < (rws GLast.enc ys).length), (rws GLast.enc ys)[i]'hh = GLast.enc ys[i] := fun i hi hh => rws_get ..
  unfold psV at *
  generalize rws GHead.enc xs = HS at *
  generalize rws GLast.enc ys = LS at *
  generalize rws GEntry.enc es = ES at *
  generalize rws GChunk.enc cs = CS at *
  simp [F144]
  refine RunC_loop (fun i : Nat => ⟨tm 107 [(1, .ptr 0 0 0 [] 0 0), (9, .rd true HS), (10, .int .i64 xs.length), (11, .int .i64 i)], [(0, some ⟨0, 12, true, false, [[.int .i64 p0, .int .i64 p1, .int .i64 se, .int .i64 st, .int .i64 te, .int .i64 ts, .rd true HS, .rd true LS, .rd true ES, .int .i64 fe, .int .i64 fs, .rd true CS]]⟩)], []⟩)
    (fun i => i ≤ xs.length ∧ ∀ j, j < i → okH te ts xs j = true) (fun i => xs.length - i) 0 ⟨by omega, by omega⟩ (by simp; omega) (by simp [tm, hrl]) fun i hi _ => ?_
  obtain ⟨hi, h0⟩ := hi
  by_cases hlt : i < xs.length
  · have hs' := idx_succ' hlt (by omega)
    have hg := hgx i hlt
    have next : okH te ts xs i = true → ∃ a, (a ≤ xs.length ∧ ∀ j, j < a → okH te ts xs j = true) ∧ xs.length - a < xs.length - i ∧ ((i + 1 : Nat) : Int) = (a : Int) := fun h => ⟨i + 1, ⟨by omega, fun j hj => by
      rcases Nat.lt_succ_iff_lt_or_eq.1 hj with h1 | rfl
      · exact h0 j h1
      · exact h⟩, by omega, rfl⟩
    have stop : okH te ts xs i = false → baseB te ts xs ys = false := fun h => by unfold baseB headsA; rw [range_false hlt h]; rfl
    have e0 : i = 0 → okH te ts xs i = hdB te ts xs[i] := fun h => by subst h; exact okH_zero hlt
    have e1 : 0 < i → okH te ts xs i = (hdB te ts xs[i] && ltN (xs[i - 1]'(by omega)).Name xs[i].Name) := fun h => okH_succ hlt h
    have w1 : 0 < i → IntKind.wrap .i64 ((i : Int) - 1) = ((i - 1 : Nat) : Int) := fun _ => by rw [wrap64 ⟨by omega, by omega⟩]; omega
    have hi1 : i - 1 < xs.length := by omega
    have hg2 := hgx (i - 1) hi1
    unfold hdB at e0 e1
    unfold ltN at e1
    have k1 := fun k => implNameOk k xs[i].Name (hz _ (List.getElem_mem hlt))
    have k2 := fun k => up k xs[i].Ver_Epoch xs[i].Ver_Seq
    have k3 := fun k => sizeOk k xs[i].Size xs[i].Sum
    simp only [GHead.enc] at hg hg2
    rcases Nat.eq_zero_or_pos i with hz0 | hi0
    · have e := e0 hz0
      subst hz0
      have hq := List.getElem?_eq_getElem (l := HS) (i := 0) (by omega)
      rw [hg] at hq
      have w01 : IntKind.wrap .i64 1 = 1 := wrap64 ⟨by omega, by omega⟩
      cases c0 : nameB xs[0].Name
      · rw [c0] at k1
        have hst := stop (by rw [e]; simp [c0])
        simp [tm, hlt, hq, storeM, rcall161, rcall207, rcall177, k1, hst]
      rw [c0] at k1
      cases c1 : upB te ts xs[0].Ver_Epoch xs[0].Ver_Seq
      · rw [c1] at k2
        have hst := stop (by rw [e]; simp [c0, c1])
        simp [tm, hlt, hq, storeM, rcall161, rcall207, rcall177, k1, k2, hst]
      rw [c1] at k2
      cases c2 : sizeB xs[0].Size xs[0].Sum
      · rw [c2] at k3
        have hst := stop (by rw [e]; simp [c0, c1, c2])
        simp [tm, hlt, hq, storeM, rcall161, rcall207, rcall177, k1, k2, k3, hst]
      rw [c2] at k3
      have hnx := next (by rw [e]; simp [c0, c1, c2])
      simp [tm, hlt, hq, storeM, rcall161, rcall207, rcall177, k1, k2, k3, w01]
      simpa using hnx
    · have e := e1 hi0
      have w2 := w1 hi0
      have hle := bl_le xs[i].Name.toList (xs[i - 1]'(by omega)).Name.toList
      cases c0 : nameB xs[i].Name
      · rw [c0] at k1
        have hst := stop (by rw [e]; simp [c0])
        simp [tm, hlt, hg, hg2, w2, hi0, hi1, hrl, storeM, rcall161, rcall207, rcall177, k1, hst]
      rw [c0] at k1
      cases c1 : upB te ts xs[i].Ver_Epoch xs[i].Ver_Seq
      · rw [c1] at k2
        have hst := stop (by rw [e]; simp [c0, c1])
        simp [tm, hlt, hg, hg2, w2, hi0, hi1, hrl, storeM, rcall161, rcall207, rcall177, k1, k2, hst]
      rw [c1] at k2
      cases c2 : sizeB xs[i].Size xs[i].Sum
      · rw [c2] at k3
        have hst := stop (by rw [e]; simp [c0, c1, c2])
        simp [tm, hlt, hg, hg2, w2, hi0, hi1, hrl, storeM, rcall161, rcall207, rcall177, k1, k2, k3, hst]
      rw [c2] at k3
      cases c3 : Op.bytesLess (xs[i - 1]'(by omega)).Name.toList xs[i].Name.toList
      · rw [c3] at hle
        have hst := stop (by rw [e]; simp [c0, c1, c2, c3])
        simp [tm, hlt, hg, hg2, w2, hi0, hi1, hrl, storeM, rcall161, rcall207, rcall177, k1, k2, k3, hle, hst]
      rw [c3] at hle
      have hnx := next (by rw [e]; simp [c0, c1, c2, c3])
      simp [tm, hlt, hg, hg2, w2, hi0, hi1, hrl, storeM, rcall161, rcall207, rcall177, k1, k2, k3, hle, hs']
      simpa using hnx
  · have : i = xs.length := by omega
    subst this
    have eh : headsA te ts xs = true := range_all.2 h0
    unfold baseB
    rw [eh, Bool.true_and]
    simp [tm]
    refine RunC_loop (fun i : Nat => ⟨tm 107 [(1, .ptr 0 0 0 [] 0 0), (53, .rd true LS), (54, .int .i64 ys.length), (55, .int .i64 i)], [(0, some ⟨0, 12, true, false, [[.int .i64 p0, .int .i64 p1, .int .i64 se, .int .i64 st, .int .i64 te, .int .i64 ts, .rd true HS, .rd true LS, .rd true ES, .int .i64 fe, .int .i64 fs, .rd true CS]]⟩)], []⟩)
      (fun i => i ≤ ys.length ∧ ∀ j, j < i → okL te ts ys j = true) (fun i => ys.length - i) 0 ⟨by omega, by omega⟩ (by simp; omega) (by simp [tm, hrl2]) fun i hi _ => ?_
    obtain ⟨hi, h0⟩ := hi
    by_cases hlt : i < ys.length
    · have hs' := idx_succ' hlt (by omega)
      have hg := hgy i hlt
      have next : okL te ts ys i = true → ∃ a, (a ≤ ys.length ∧ ∀ j, j < a → okL te ts ys j = true) ∧ ys.length - a < ys.length - i ∧ ((i + 1 : Nat) : Int) = (a : Int) := fun h => ⟨i + 1, ⟨by omega, fun j hj => by
        rcases Nat.lt_succ_iff_lt_or_eq.1 hj with h1 | rfl
        · exact h0 j h1
        · exact h⟩, by omega, rfl⟩
      have stop : okL te ts ys i = false → (lastsA te ts ys && (decide ((xs.length : Int) ≤ 16) && decide ((ys.length : Int) ≤ 6))) = false := fun h => by unfold lastsA; rw [range_false hlt h]; rfl
      have e0 : i = 0 → okL te ts ys i = ltL te ts ys[i] := fun h => by subst h; exact okL_zero hlt
      have e1 : 0 < i → okL te ts ys i = (ltL te ts ys[i] && decide ((ys[i - 1]'(by omega)).Client < ys[i].Client)) := fun h => okL_succ hlt h
      have w1 : 0 < i → IntKind.wrap .i64 ((i : Int) - 1) = ((i - 1 : Nat) : Int) := fun _ => by rw [wrap64 ⟨by omega, by omega⟩]; omega
      have hi1 : i - 1 < ys.length := by omega
      have hg2 := hgy (i - 1) hi1
      unfold ltL at e0 e1
      rw [← cli_req] at e0 e1
      have k1 := fun k => reqOk k ys[i].Client ys[i].No
      have k2 := fun k => up k ys[i].Ver_Epoch ys[i].Ver_Seq
      simp only [GLast.enc] at hg hg2
      rcases Nat.eq_zero_or_pos i with hz0 | hi0
      · have e := e0 hz0
        subst hz0
        have hq := List.getElem?_eq_getElem (l := LS) (i := 0) (by omega)
        rw [hg] at hq
        have w01 : IntKind.wrap .i64 1 = 1 := wrap64 ⟨by omega, by omega⟩
        cases c0 : reqB ys[0].Client ys[0].No
        · rw [c0] at k1
          have hst := stop (by rw [e]; simp [c0])
          simp [tm, hlt, hq, storeM, rcall176, rcall207, k1, hst]
        rw [c0] at k1
        cases c1 : (ys[0].Client == 0 && ys[0].No == 0)
        rotate_left
        · skip
          have hst := stop (by rw [e]; simp [c0, c1])
          simp [tm, hlt, hq, storeM, rcall176, rcall207, k1, c1, hst]
        skip
        cases c2 : upB te ts ys[0].Ver_Epoch ys[0].Ver_Seq
        · rw [c2] at k2
          have hst := stop (by rw [e]; simp [c0, c1, c2])
          simp [tm, hlt, hq, storeM, rcall176, rcall207, k1, c1, k2, hst]
        rw [c2] at k2
        have hnx := next (by rw [e]; simp [c0, c1, c2])
        simp [tm, hlt, hq, storeM, rcall176, rcall207, k1, c1, k2, w01]
        simpa using hnx
      · have e := e1 hi0
        have w2 := w1 hi0
        have hge : decide (ys[i].Client ≤ (ys[i - 1]'(by omega)).Client) = !decide ((ys[i - 1]'(by omega)).Client < ys[i].Client) := by
          by_cases h : (ys[i - 1]'(by omega)).Client < ys[i].Client
          · have : ¬ ys[i].Client ≤ (ys[i - 1]'(by omega)).Client := by omega
            simp [h, this]
          · have : ys[i].Client ≤ (ys[i - 1]'(by omega)).Client := by omega
            simp [h, this]
        cases c0 : reqB ys[i].Client ys[i].No
        · rw [c0] at k1
          have hst := stop (by rw [e]; simp [c0])
          simp [tm, hlt, hg, hg2, w2, hi0, hi1, hrl2, storeM, rcall176, rcall207, k1, hst]
        rw [c0] at k1
        cases c1 : (ys[i].Client == 0 && ys[i].No == 0)
        rotate_left
        · skip
          have hst := stop (by rw [e]; simp [c0, c1])
          simp [tm, hlt, hg, hg2, w2, hi0, hi1, hrl2, storeM, rcall176, rcall207, k1, c1, hst]
        skip
        cases c2 : upB te ts ys[i].Ver_Epoch ys[i].Ver_Seq
        · rw [c2] at k2
          have hst := stop (by rw [e]; simp [c0, c1, c2])
          simp [tm, hlt, hg, hg2, w2, hi0, hi1, hrl2, storeM, rcall176, rcall207, k1, c1, k2, hst]
        rw [c2] at k2
        cases c3 : decide ((ys[i - 1]'(by omega)).Client < ys[i].Client)
        · rw [c3] at hge
          have hst := stop (by rw [e]; simp [c0, c1, c2, c3])
          simp [tm, hlt, hg, hg2, w2, hi0, hi1, hrl2, storeM, rcall176, rcall207, k1, c1, k2, hge, hst]
        rw [c3] at hge
        have hnx := next (by rw [e]; simp [c0, c1, c2, c3])
        simp [tm, hlt, hg, hg2, w2, hi0, hi1, hrl2, storeM, rcall176, rcall207, k1, c1, k2, hge, hs']
        simpa using hnx
    · have : i = ys.length := by omega
      subst this
      have el : lastsA te ts ys = true := range_all.2 h0
      rw [el, Bool.true_and]
      cases c1 : decide ((xs.length : Int) ≤ 16) <;> simp [tm, hrl, hrl2, c1]
end Go.Ae.GA.B
namespace Go.Ae.GA.B
set_option linter.unusedSimpArgs false
set_option linter.unusedVariables false
/-- The last entry's version, or the tail. -/
def lsE (te : Int) (f : GEntry → Int) (es : List GEntry) : Int := match es[es.length - 1]? with
  | some e => f e
  | none => te
theorem lsE_nil (te : Int) (f : GEntry → Int) : lsE te f [] = te := rfl
theorem lsE_at {te : Int} {f : GEntry → Int} {es : List GEntry} (h : es.length - 1 < es.length) : lsE te f es = f es[es.length - 1] := by
  unfold lsE; rw [List.getElem?_eq_getElem h]
theorem lastG (k : Nat) (es : List GEntry) (h0 : es.length - 1 < es.length) (hn : es.length ≤ 1048576) : call code (k + 1) 187 [.rd true (rws GEntry.enc es)] [] = some ⟨.agg (GEntry.enc es[es.length - 1]), [], []⟩ := by
  refine call_run rfl fn187 rfl ?_
  have hg : ∀ hh, (rws GEntry.enc es)[es.length - 1]'hh = GEntry.enc es[es.length - 1] := fun hh => rws_get ..
  have hrl := rws_len (enc := GEntry.enc) es
  have w : IntKind.wrap .i64 ((es.length : Int) - 1) = ((es.length - 1 : Nat) : Int) := by rw [wrap64 ⟨by omega, by omega⟩]; omega
  simp only [GEntry.enc] at hg ⊢
  generalize rws GEntry.enc es = R at *
  generalize hix : es.length - 1 = ix at *
  simp [F187, w, hrl, h0, hg, storeM]
set_option maxHeartbeats 4000000 in
theorem lastVer (k : Nat) (p0 p1 se st te ts : Int) (hs : List GHead) (ls : List GLast) (es : List GEntry) (fe fs : Int) (cs : List GChunk) (b3 : es.length ≤ 1048576) : call code (k + 2) 110 [psV p0 p1 se st te ts hs ls es fe fs cs] [] = some ⟨.agg [.int .i64 (lsE te (·.Ver_Epoch) es), .int .i64 (lsE ts (·.Ver_Seq) es)], [], []⟩ := by
  refine call_run rfl fn110 rfl ?_
  rcases Nat.eq_zero_or_pos es.length with h | h
  · have : es = [] := List.length_eq_zero_iff.1 h
    subst this
    simp [F110, storeM, lsE_nil]
  · have h0 : es.length - 1 < es.length := by omega
    have l := fun k => lastG k es h0 (by omega)
    have h1 : ¬ es.length = 0 := by omega
    have h2 : ¬ es = [] := fun e => h1 (by rw [e]; rfl)
    have hrl := rws_len (enc := GEntry.enc) es
    rw [lsE_at h0, lsE_at h0]
    simp only [GEntry.enc] at l
    have d : ((es.length : Int) == 0) = false := by rw [beq_eq_false_iff_ne]; omega
    simp [F110, storeM, rcall187, l, h1, h2, hrl, d]
set_option maxHeartbeats 4000000 in
theorem l17LastOf (k : Nat) (p0 p1 se st te ts : Int) (hs : List GHead) (ls : List GLast) (es : List GEntry) (fe fs : Int) (cs : List GChunk) (b3 : es.length ≤ 1048576) : call code (k + 2) 102 [psV p0 p1 se st te ts hs ls es fe fs cs] [] = some ⟨.agg [.int .i64 (lsE te (·.Ver_Epoch) es), .int .i64 (lsE ts (·.Ver_Seq) es)], [], []⟩ := by
  refine call_run rfl fn102 rfl ?_
  rcases Nat.eq_zero_or_pos es.length with h | h
  · have : es = [] := List.length_eq_zero_iff.1 h
    subst this
    simp [F102, storeM, lsE_nil]
  · have h0 : es.length - 1 < es.length := by omega
    have hg : ∀ hh, (rws GEntry.enc es)[es.length - 1]'hh = GEntry.enc es[es.length - 1] := fun hh => rws_get ..
    have hrl := rws_len (enc := GEntry.enc) es
    have w : IntKind.wrap .i64 ((es.length : Int) - 1) = ((es.length - 1 : Nat) : Int) := by rw [wrap64 ⟨by omega, by omega⟩]; omega
    rw [lsE_at h0, lsE_at h0]
    have h3 : (0 : Int) < es.length := by omega
    simp only [GEntry.enc] at hg
    generalize rws GEntry.enc es = R at *
    generalize hix : es.length - 1 = ix at *
    simp [F102, storeM, w, hrl, h0, hg, h, h3, GEntry.enc]
theorem srt_of {te ts : Int} {hs : List GHead} (h : headsA te ts hs = true) : Srt hs := by
  have h1 := range_all.1 h
  have step : ∀ i (hi : i + 1 < hs.length), Op.bytesLess (nmH (hs[i]'(by omega))) (nmH hs[i + 1]) = true := fun i hi => by
    have := h1 (i + 1) hi
    rw [okH_succ hi (by omega)] at this
    simp only [Bool.and_eq_true] at this
    have h2 := this.2
    unfold ltN at h2
    rw [tlx, tlx] at h2
    exact h2
  have far : ∀ d i (hi : i + d + 1 < hs.length), Op.bytesLess (nmH (hs[i]'(by omega))) (nmH hs[i + d + 1]) = true := fun d => by
    induction d with
    | zero => exact fun i hi => step i hi
    | succ d ih =>
      intro i hi
      exact bl_trans _ _ _ (ih i (by omega)) (step (i + d + 1) hi)
  unfold Srt
  rw [List.pairwise_iff_getElem]
  intro i j hi hj hij
  have := far (j - i - 1) i (by omega)
  have e : i + (j - i - 1) + 1 = j := by omega
  simpa only [e] using this
theorem headsOf_rws : ∀ hs : List GHead, headsOf (rws GHead.enc hs) = some (hs.map (·.Name))
  | [] => rfl
  | h :: r => by
    have := headsOf_rws r
    rw [rws_cons]
    simp only [GHead.enc, headsOf]
    rw [this]; rfl
theorem entsOf_rws : ∀ es : List GEntry, entsOf (rws GEntry.enc es) = some (es.map toEnt)
  | [] => rfl
  | e :: r => by
    have := entsOf_rws r
    rw [rws_cons]
    simp only [GEntry.enc, entsOf, entOf]
    rw [this]; rfl
theorem logOkN (k : Nat) (p0 p1 se st te ts : Int) (hs : List GHead) (ls : List GLast) (es : List GEntry) (fe fs : Int) (cs : List GChunk) (b1 : hs.length ≤ 1048576) (b3 : es.length ≤ 1048576) (z1 : ∀ c ∈ hs, c.Name.size ≤ 1048576) (z2 : ∀ c ∈ es, c.Name.size ≤ 1048576) : call code (k + 1) 145 [psV p0 p1 se st te ts hs ls es fe fs cs] [] = some ⟨.bool (logB te ts (hs.map (·.Name)) (es.map toEnt)), [], []⟩ := by
  refine nat145 k _ _ _ _ ?_
  unfold natLogOk
  simp only [headsOf_rws, entsOf_rws]
  rw [if_pos]
  refine ⟨fun s hs' => ?_, fun e he => ?_, by simp; omega, by simp; omega⟩
  · obtain ⟨h, hh, rfl⟩ := List.mem_map.1 hs'
    exact z1 h hh
  · obtain ⟨x, hx, rfl⟩ := List.mem_map.1 he
    exact z2 x hx
def stateB (p0 p1 se st te ts : Int) (hs : List GHead) (ls : List GLast) (es : List GEntry) (fe fs : Int) (cs : List GChunk) : Bool := pgB p0 p1 && (inB se 0 60 && (inB st 0 se && (verB te ts && (baseB te ts hs ls && (lgB te ts hs es && (verB fe fs && (!lessB (lsE te (·.Ver_Epoch) es) (lsE ts (·.Ver_Seq) es) fe fs && chksB cs)))))))
end Go.Ae.GA.B
