/- TakeDelta. -/
import Derived.Test.YtnfghcflpnlbiaaC3M21
namespace Go.Ae.C3
set_option linter.unusedSimpArgs false
set_option linter.unusedVariables false
set_option maxRecDepth 100000 in
set_option maxHeartbeats 64000000 in
theorem takeDeltaI (k : Nat) {a b u n : Nat} {ws : List ByteArray} (h : Wide a b u n ws) {d : GDelta} (hd : OkD (a + b) (tallN a u n) d) : call code (k + 9) 68 [.agg [.int .i64 a, .int .i64 b, .int .i64 u, .int .i64 n, .rd true (rws encT ws)], .agg (GDelta.enc d)] [] = some (resWE a b u n (tkD ws d) 0) := by
  refine call_run rfl fn68 rfl ?_
  have ha1 := h.a1
  have ha4 := h.a4
  have hu1 := h.u1
  have hu8 := h.u8
  have hb3 := h.b3
  have h256 := h.n256
  have hlen := h.len
  have o1 := fun k => wideOk k a b u n ws (by omega)
  rw [h.ok] at o1
  have htl := tallN_le (n := n) ha1 hu1
  have t1 := fun k => (takes h.cls hd (by omega) (by omega) k a b u n).1
  have hCl := (h.cls.tk hd).len
  have hl := fun k R => length k a b u n R ⟨ha1, ha4⟩ ⟨hu1, hu8⟩ h256
  have p0 := hd.p0
  have p1 := hd.p1
  have q0 := hd.a0
  have q1 := hd.a1
  have ip := fun k => isPos k a b d.Pos (by omega)
  have e4 : inB d.Pos 0 (((a + b : Nat) : Int) - 1) = true := by simp [inB]; omega
  rw [e4] at ip
  have i3 := fun k => between k d.At 0 (tallN a u n)
  have e3 : inB d.At 0 (tallN a u n) = true := by simp [inB]; omega
  rw [e3] at i3
  have w1 : IntKind.wrap .i64 ((tallN a u n : Int) - d.At) = (tallN a u n : Int) - d.At := wrap64 ⟨by omega, by omega⟩
  have d1 : ¬ ((tallN a u n : Int) - d.At < d.Bytes.size) := by omega
  have k2 := tkE (enc := encT) (l := tkD ws d) hCl
  have r2 := rws_len (enc := encT) (tkD ws d)
  simp only [resW1, wAV] at t1
  unfold resWE
  rw [hCl] at t1 r2 ⊢
  simp only [GDelta.enc] at t1 ⊢
  unfold wAV at hl
  generalize hX1 : rws encT (tkD ws d) = X1 at *
  generalize d.Pos = dp at *
  generalize d.At = da at *
  generalize d.Bytes = db at *
  generalize tallN a u n = tl at *
  generalize hab : a + b = ab at *
  simp [F68, rcall49, o1, rcall79, ip, rcall99, hl, rcall86, i3, w1, d1, rcall121, t1, storeM, k2, r2]
  trace_state
end Go.Ae.C3
namespace Go.Ae.C3
set_option linter.unusedSimpArgs false
set_option linter.unusedVariables false
set_option maxRecDepth 100000 in
set_option maxHeartbeats 64000000 in
theorem writeWideI (k : Nat) {a b u n w tall : Nat} {ws : List ByteArray} (hC : Cls w tall ws) (hw : w ≤ 1000) (ht : tall ≤ 1000) (at_ : Int) (s : ByteArray) (L : List GDelta) (hL : L.length ≤ 2100) (hok : ∀ d ∈ L, OkD w tall d)
    (hd : ∀ k, call code (k + 9) 59 [.agg [.int .i64 a, .int .i64 b, .int .i64 u, .int .i64 n, .rd true (rws encT ws)], .int .i64 at_, .str s] [] = some (resDe L 0)) :
    call code (k + 10) 64 [.agg [.int .i64 a, .int .i64 b, .int .i64 u, .int .i64 n, .rd true (rws encT ws)], .int .i64 at_, .str s] [] = some (resWE a b u n (L.foldl tkD ws) 0) := by
  refine call_run rfl fn64 rfl ?_
  have hwl := hC.len
  have c1 := fun k => cloneT k ws (by omega)
  have hDl := rws_len (enc := GDelta.enc) L
  have hDk := tkE (enc := GDelta.enc) (l := L) rfl
  have hrl := rws_len (enc := encT) ws
  have hk := tkE (enc := encT) (l := ws) rfl
  have hg : ∀ j (hj : j < L.length) (hh : j < (rws GDelta.enc L).length), (rws GDelta.enc L)[j]'hh = GDelta.enc L[j] := fun j hj hh => rws_get ..
  have hfin : colJ ws L L.length = L.foldl tkD ws := by unfold colJ; rw [List.take_length]
  have hl0 := (colJ_cls hC hok L.length).len
  have hkf := tkE (enc := encT) (l := colJ ws L L.length) hl0
  have hrf := rws_len (enc := encT) (colJ ws L L.length)
  rw [hl0] at hrf
  have c0 : colJ ws L 0 = ws := rfl
  simp only [resDe] at hd
  unfold resWE
  rw [← hfin, hl0]
  rw [hwl] at c1 hrl hk
  simp [F64, rcall59, hd, hDl, hDk, storeM, rcall120, c1, hrl, hk]
  refine RunC_loop (fun j : Nat => ⟨tm 38 [(3, .ptr 0 0 0 [] 0 0), (6, .ptr 0 256 0 [] 0 0), (27, .sl 0 66304 0 [] 0 L.length), (28, .int .i64 L.length), (29, .int .i64 j)], [(0, some ⟨0, 5, true, false, [[.int .i64 a, .int .i64 b, .int .i64 u, .int .i64 n, .sl 0 262656 0 [] 0 w]]⟩), (256, some ⟨0, 5, true, false, [[.int .i64 0, .int .i64 0, .int .i64 0, .int .i64 0, .sl 0 261 0 [] 0 0]]⟩), (261, some ⟨0, 1, false, true, []⟩), (66304, some ⟨0, 3, false, true, rws GDelta.enc L⟩), (262656, some ⟨0, 1, false, true, rws encT (colJ ws L j)⟩)], []⟩)
    (fun j => j ≤ L.length) (fun j => L.length - j) 0 (Nat.zero_le _) (by simp; omega) (by simp [tm, c0]) fun j hj _ => ?_
  by_cases hlt : j < L.length
  · have hs := idx_succ' hlt (by omega)
    have hCj := colJ_cls hC hok j
    have hCl := hCj.len
    have hCl1 := (colJ_cls hC hok (j + 1)).len
    have t1 := fun k => (takes hCj (hok _ (List.getElem_mem hlt)) hw ht k a b u n).1
    rw [← colJ_succ hlt] at t1
    have hg1 := hg j hlt
    have k1 := tkE (enc := encT) (l := colJ ws L j) hCl
    have k2 := tkE (enc := encT) (l := colJ ws L (j + 1)) hCl1
    have r1 := rws_len (enc := encT) (colJ ws L j)
    have r2 := rws_len (enc := encT) (colJ ws L (j + 1))
    simp only [resW1, wAV] at t1
    rw [hCl1] at t1 r2
    rw [hCl] at r1
    simp only [GDelta.enc] at hg1 t1
    clear hg hfin hkf hrf
    generalize hX1 : rws encT (colJ ws L (j + 1)) = X1 at *
    generalize rws encT (colJ ws L j) = X0 at *
    generalize L[j].Pos = dp at *
    generalize L[j].At = da at *
    generalize L[j].Bytes = db at *
    generalize rws GDelta.enc L = D at *
    simp [tm, hlt, hg1, hDl, storeM, rcall121, t1, k1, k2, r1, r2, hs]
    exact ⟨j + 1, by omega, by omega, by omega, hX1.symm⟩
  · have : j = L.length := by omega
    subst this
    generalize rws encT (colJ ws L L.length) = X0 at *
    generalize rws GDelta.enc L = D at *
    simp [tm, hrf, hkf, storeM]
set_option maxRecDepth 100000 in
set_option maxHeartbeats 64000000 in
theorem writeWideS (k : Nat) {a b u n w tall : Nat} {ws : List ByteArray} (hC : Cls w tall ws) (hw : w ≤ 1000) (ht : tall ≤ 1000) (at_ : Int) (s : ByteArray) (L : List GDelta) (hL : L.length ≤ 2100) (hok : ∀ d ∈ L, OkD w tall d)
    (o2 : ∀ k, call code (k + 4) 103 [.agg [.int .i64 a, .int .i64 b, .int .i64 u, .int .i64 n, .rd true (rws encT ws)]] [] = some ⟨.bool true, [], []⟩)
    (wi : ∀ k, call code (k + 2) 113 [.agg [.int .i64 a, .int .i64 b, .int .i64 u, .int .i64 n, .rd true (rws encT ws)], .int .i64 at_, .str s] [] = some ⟨.bool true, [], []⟩)
    (hd : ∀ k, call code (k + 7) 114 [.agg [.int .i64 a, .int .i64 b, .int .i64 u, .int .i64 n, .rd true (rws encT ws)], .int .i64 at_, .str s] [] = some ⟨.sl 0 0 0 [] 0 L.length, [⟨0, 3, false, true, rws GDelta.enc L⟩], []⟩) :
    call code (k + 10) 63 [.agg [.int .i64 a, .int .i64 b, .int .i64 u, .int .i64 n, .rd true (rws encT ws)], .int .i64 at_, .str s] [] = some (resWE a b u n (L.foldl tkD ws) 0) := by
  refine call_run rfl fn63 rfl ?_
  have hwl := hC.len
  have c1 := fun k => cloneT k ws (by omega)
  have hDl := rws_len (enc := GDelta.enc) L
  have hDk := tkE (enc := GDelta.enc) (l := L) rfl
  have hrl := rws_len (enc := encT) ws
  have hk := tkE (enc := encT) (l := ws) rfl
  have hg : ∀ j (hj : j < L.length) (hh : j < (rws GDelta.enc L).length), (rws GDelta.enc L)[j]'hh = GDelta.enc L[j] := fun j hj hh => rws_get ..
  have hfin : colJ ws L L.length = L.foldl tkD ws := by unfold colJ; rw [List.take_length]
  have hl0 := (colJ_cls hC hok L.length).len
  have hkf := tkE (enc := encT) (l := colJ ws L L.length) hl0
  have hrf := rws_len (enc := encT) (colJ ws L L.length)
  rw [hl0] at hrf
  have c0 : colJ ws L 0 = ws := rfl
  unfold resWE
  rw [← hfin, hl0]
  rw [hwl] at c1 hrl hk
  have hall : ∀ y ∈ rws encT ws, y.length = 1 := fun y hy => by
    have := List.all_eq_true.1 (rws_all encT (sz := 1) (fun _ => rfl) ws) y hy
    simpa using this
  simp [F63, rcall103, o2, rcall113, wi, rcall114, hd, hDl, hDk, storeM, hrl, hk, evalW, source]
  refine ⟨hall, ⟨by omega, by omega⟩, ?_⟩
  refine RunC_loop (fun j : Nat => ⟨tm 42 [(3, .ptr 0 0 0 [] 0 0), (6, .ptr 0 256 0 [] 0 0), (8, .sl 0 328448 0 [] 0 L.length), (9, .int .i64 j)], [(0, some ⟨0, 5, true, false, [[.int .i64 a, .int .i64 b, .int .i64 u, .int .i64 n, .sl 0 393216 0 [] 0 w]]⟩), (256, some ⟨0, 5, true, false, [[.int .i64 0, .int .i64 0, .int .i64 0, .int .i64 0, .sl 0 261 0 [] 0 0]]⟩), (261, some ⟨0, 1, false, true, []⟩), (328448, some ⟨0, 3, false, true, rws GDelta.enc L⟩), (393216, some ⟨0, 1, false, true, rws encT (colJ ws L j)⟩)], []⟩)
    (fun j => j ≤ L.length) (fun j => L.length - j) 0 (Nat.zero_le _) (by simp; omega) (by simp [tm, c0]) fun j hj _ => ?_
  by_cases hlt : j < L.length
  · have hs := idx_succ' hlt (by omega)
    have hCj := colJ_cls hC hok j
    have hCl := hCj.len
    have hCl1 := (colJ_cls hC hok (j + 1)).len
    have t1 := fun k => (takes hCj (hok _ (List.getElem_mem hlt)) hw ht k a b u n).2
    rw [← colJ_succ hlt] at t1
    have hg1 := hg j hlt
    have k1 := tkE (enc := encT) (l := colJ ws L j) hCl
    have k2 := tkE (enc := encT) (l := colJ ws L (j + 1)) hCl1
    have r1 := rws_len (enc := encT) (colJ ws L j)
    have r2 := rws_len (enc := encT) (colJ ws L (j + 1))
    simp only [resW1, wAV] at t1
    rw [hCl1] at t1 r2
    rw [hCl] at r1
    simp only [GDelta.enc] at hg1 t1
    clear hg hfin hkf hrf
    generalize hX1 : rws encT (colJ ws L (j + 1)) = X1 at *
    generalize rws encT (colJ ws L j) = X0 at *
    generalize L[j].Pos = dp at *
    generalize L[j].At = da at *
    generalize L[j].Bytes = db at *
    generalize rws GDelta.enc L = D at *
    simp [tm, hlt, hg1, hDl, storeM, rcall119, t1, k1, k2, r1, r2, hs]
    exact ⟨j + 1, by omega, by omega, by omega, hX1.symm⟩
  · have : j = L.length := by omega
    subst this
    generalize rws encT (colJ ws L L.length) = X0 at *
    generalize rws GDelta.enc L = D at *
    simp [tm, hrf, hkf, storeM]
end Go.Ae.C3
namespace Go.Ae.C3
set_option linter.unusedSimpArgs false
set_option linter.unusedVariables false
theorem a8Mix3 (k : Nat) (l : List UInt8) (hl : l.length ≤ 1048576) : call code (k + 1) 66 [.int .i64 3, .rd true (rws encU l)] [] = some ⟨.sl 0 0 0 [] 0 (l.length + 1), [⟨0, 1, false, true, rws encU (3 :: l)⟩], []⟩ := by
  refine call_run rfl fn66 rfl ?_
  have h7 : rws encU (3 :: l) = [.int .u8 3] :: rws encU l := rfl
  have hrl := rws_len (enc := encU) l
  have hall : ∀ x ∈ rws encU l, x.length = 1 := by
    intro x hx
    simp only [rws, List.mem_map] at hx
    obtain ⟨a, _, rfl⟩ := hx
    rfl
  rw [h7]
  generalize rws encU l = R at *
  simp [F66, evalW, source, hrl]
  exact ⟨hall, by omega, by omega, by decide⟩
theorem sameTexts (k : Nat) (ws : List ByteArray) (hn : ws.length ≤ 1048576000) : call code (k + 1) 67 [.rd true (rws encT ws), .rd true (rws encT ws)] [] = some ⟨.bool true, [], []⟩ := by
  refine call_run rfl fn67 rfl ?_
  simp [F67]
  refine RunC_loop (fun i : Nat => ⟨tm 26 [(0, .rd true (rws encT ws)), (1, .rd true (rws encT ws)), (5, .int .i64 i)], [], []⟩)
    (fun i => i ≤ ws.length) (fun i => ws.length - i) 0 (Nat.zero_le _) (by simp; omega) (by simp [tm]) fun i hi _ => ?_
  by_cases hlt : i < ws.length
  · have hs := idx_succ' hlt (by omega)
    simp [tm, hlt, hs, encT]
    exact ⟨i + 1, by omega, by omega, by simp⟩
  · have : i = ws.length := by omega
    subst this
    simp [tm]
/-- The deltas of a change that lies within. -/
theorem deltasOfG (k : Nat) {a b u n f : Nat} {ws : List ByteArray} {t : List UInt8} (h : Wide a b u n ws) (hfm : f + t.length ≤ n) : call code (k + 9) 59 [.agg [.int .i64 a, .int .i64 b, .int .i64 u, .int .i64 n, .rd true (rws encT ws)], .int .i64 f, .str (B t)] [] = some (resDe (dAll a b u ws t f) 0) := by
  have hlen := h.len
  have ha4 := h.a4
  have hb3 := h.b3
  by_cases ht : t = []
  · subst ht
    have h256 := h.n256
    have o1 := fun k => wideOk k a b u n ws (by omega)
    rw [h.ok] at o1
    have hf : f ≤ n := by simpa using hfm
    have i3 := fun k => between k f 0 n
    have e3 : inB (f : Int) 0 n = true := by simp [inB]; omega
    rw [e3] at i3
    have w3 : IntKind.wrap .i64 ((n : Int) - (f : Int)) = (n : Int) - f := wrap64 ⟨by omega, by omega⟩
    have hd : dAll a b u ws [] f = [] := by simp [dAll, nsN, dsI]
    have d1 : ¬ ((n : Int) - f < 0) := by omega
    have hts : (B []).size = 0 := rfl
    have hne : (B []).toList.isEmpty = true := by simp [B]
    rw [hd]
    exact call_run rfl fn59 rfl (by simp [F59, rcall49, o1, rcall86, i3, w3, d1, hts, hne, resDe, nilE])
  · exact deltasOfI k h (by omega) hfm ht
theorem dlS_pos {a b u s f : Nat} {ws : List ByteArray} {t : List UInt8} (ha : 1 ≤ a) (hu : 1 ≤ u) (hs : s = f / (a * u)) (ht : t ≠ []) : 1 + b ≤ (dlS a b u ws t f s).length := by
  have htl : 0 < t.length := List.length_pos_iff.2 ht
  have hS : 0 < a * u := Nat.mul_pos (by omega) (by omega)
  rw [dlS, List.length_append, parI_len]
  have hc := colN_lt ha hu f
  have hm : ∀ n, colN a u f < n → 1 ≤ (dlI a u ws t f s n).length := fun n => by
    induction n with
    | zero => intro h; omega
    | succ n ih =>
      intro h
      rw [dlI, List.length_append]
      by_cases h1 : colN a u f < n
      · have := ih h1; omega
      · have h2 : n = colN a u f := by omega
        subst h2
        have hp : posN a u (colN a u f) (offN a u f) = f := pos_of_cell ha hu f
        have ho : offN a u f / u = s := by
          rw [← pos_div (a := a) (c := colN a u f) hc hu, hp, hs]
        have hq := q_pos (a := a) (c := colN a u f) (i := offN a u f) hu
        rw [ho, hp] at hq
        have hlt : offN a u f % u < u := Nat.mod_lt _ (by omega)
        unfold dlC
        rw [if_pos (by unfold loN hiN; omega)]
        simp
  have := hm a hc
  omega
theorem dAll_pos {a b u f : Nat} {ws : List ByteArray} {t : List UInt8} (ha : 1 ≤ a) (hu : 1 ≤ u) (ht : t ≠ []) : 1 + b ≤ (dAll a b u ws t f).length := by
  have htl : 0 < t.length := List.length_pos_iff.2 ht
  have h5 : f / (a * u) ≤ (f + t.length - 1) / (a * u) := Nat.div_le_div_right (by omega)
  have hn : 1 ≤ nsN a u f t.length := by
    unfold nsN
    rw [if_neg (by omega)]
    generalize (f + t.length - 1) / (a * u) = y at *
    generalize f / (a * u) = x at *
    omega
  unfold dAll
  have hm : ∀ n, 1 ≤ n → 1 + b ≤ (dsI a b u ws t f (f / (a * u)) n).length := fun n => by
    induction n with
    | zero => intro h; omega
    | succ n ih =>
      intro _
      rw [dsI, List.length_append]
      by_cases h1 : n = 0
      · subst h1
        have := dlS_pos (b := b) (ws := ws) (s := f / (a * u) + 0) ha hu rfl ht
        omega
      · have := ih (by omega); omega
  exact hm _ hn
end Go.Ae.C3
