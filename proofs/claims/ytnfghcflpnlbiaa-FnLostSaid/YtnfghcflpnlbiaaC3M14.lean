/- ReadLost, the program's and the reference's. -/
import Derived.Test.YtnfghcflpnlbiaaC3M13
namespace Go.Ae.C3
set_option linter.unusedSimpArgs false
set_option linter.unusedVariables false
abbrev wV (a b u n : Int) (ws : List ByteArray) : AV := .agg [.int .i64 a, .int .i64 b, .int .i64 u, .int .i64 n, .rd true (rws encT ws)]
set_option maxHeartbeats 16000000 in
theorem lostGoodI (k : Nat) {a b u n : Nat} {ws : List ByteArray} (h : Wide a b u n ws) (hw : wideB a b u n ws = true) (ps : List Int) (hn : ps.length ≤ 1048576) (hl : ws.length ≤ 1048576) (f : Nat) (m : Nat) (num : Int) (h1 : incB ps = true) (h2 : ps.any (outB (((a + b : Nat) : Int) - 1)) = false) (h3 : f ≤ n) (h4 : 0 ≤ num) (h5 : min num ((n : Int) - f) = m)
    (hle : a ≤ (onH ws ps (a + b)).length) : call code (k + 8) 55 [wV a b u n ws, .rd true (rws encI ps), .int .i64 f, .int .i64 num] [] = some (resT (B (rdB a u ((recD a b (tallN a u n) (onH ws ps (a + b))).map B) f m)) 0) := by
  refine call_run rfl fn55 rfl ?_
  have o1 := fun k => wideOk k a b u n ws hl
  rw [hw] at o1
  have H := onH_haveF h ps
  have hC := recD_cols h hle
  have hlen := h.len
  have hb3 := h.b3
  have ha4 := h.a4
  have ha1 := h.a1
  have c := fun k x => contains k ps x hn
  have htl := tallN_le (n := n) h.a1 h.u1
  have h256 := h.n256
  have hu8 := h.u8
  have hfm : f + m ≤ n := by omega
  have bd := fun k R => hC.body k b f m hfm R
  have bk := fun k => recovered k H hle (by omega)
  have hdl := recD_len H hle
  have hrl := rowsS_len (recD a b (tallN a u n) (onH ws ps (a + b)))
  rw [hdl] at hrl
  have tR : (rowsS (recD a b (tallN a u n) (onH ws ps (a + b)))).take a = rowsS (recD a b (tallN a u n) (onH ws ps (a + b))) := List.take_of_length_le (by omega)
  have hr : rws encT ((recD a b (tallN a u n) (onH ws ps (a + b))).map B) = rowsS (recD a b (tallN a u n) (onH ws ps (a + b))) := rfl
  rw [hr] at bd
  have hcnt := keepN_count h1 h2
  rw [← onH_len ws] at hcnt
  clear hdl hr hC
  generalize B (rdB a u ((recD a b (tallN a u n) (onH ws ps (a + b))).map B) f m) = T at *
  generalize rowsS (recD a b (tallN a u n) (onH ws ps (a + b))) = R at *
  generalize tallN a u n = t at *
  have hob := onH_le ws ps
  have z := fun k => size k a b (by omega)
  have i1 := fun k => increasing k ps hn
  have i2 := fun k => allBetween k ps (((a + b : Nat) : Int) - 1) hn
  have i3 := fun k => between k f 0 n
  have e3 : inB (f : Int) 0 n = true := by simp [inB]; omega
  rw [h1] at i1
  rw [h2] at i2
  rw [e3] at i3
  have w1 : IntKind.wrap .i64 (((a + b : Nat) : Int) - 1) = ((a + b : Nat) : Int) - 1 := wrap64 ⟨by omega, by omega⟩
  have w2 : IntKind.wrap .i64 (((a + b : Nat) : Int) - (ps.length : Int)) = (((onH ws ps (a + b)).length : Nat) : Int) := by rw [wrap64 ⟨by omega, by omega⟩]; omega
  have w3 : IntKind.wrap .i64 ((n : Int) - (f : Int)) = (n : Int) - f := wrap64 ⟨by omega, by omega⟩
  have d1 : decide ((((onH ws ps (a + b)).length : Nat) : Int) < (a : Int)) = false := by simp; omega
  have d1' : ¬ (onH ws ps (a + b)).length < a := by omega
  have h6 : (if (n : Int) - f < num then (n : Int) - f else num) = m := by split <;> omega
  have d2 : ¬ num < 0 := by omega
  generalize hab : a + b = ab at *
  simp [F55, rcall49, o1, rcall107, i1, rcall96, z, w1, rcall108, i2, rcall86, i3, d2, w2, d1, d1']
  refine RunC_loop (fun i : Nat => ⟨tm 84 [(1, .rd true (rws encI ps)), (2, .int .i64 f), (3, .int .i64 num), (4, .ptr 0 0 0 [] 0 0), (10, .sl 0 458752 0 [] 0 (onH ws ps i).length), (53, .rd true (rws encT ws)), (54, .int .i64 ws.length), (55, .int .i64 i)], [(0, some ⟨0, 5, true, false, [[.int .i64 a, .int .i64 b, .int .i64 u, .int .i64 n, .rd true (rws encT ws)]]⟩), (458752, some ⟨0, 2, false, true, rws GShard.enc (onH ws ps i)⟩)], []⟩)
    (fun i => i ≤ ab) (fun i => ab - i) 0 (Nat.zero_le _) (by simp; omega) (by simp [tm, onH, keepN, rws]) fun i hi _ => ?_
  by_cases hlt : i < ab
  · have hs := idx_succ' hlt (by omega)
    have hiw : i < ws.length := by omega
    have c1 := fun k => c k i
    have hob1 := hob i
    have hrl2 := rws_len (enc := GShard.enc) (onH ws ps i)
    cases hc : hasB ps i
    · rw [hc] at c1
      have hg : ws.getD i ByteArray.empty = ws[i] := by rw [List.getD_eq_getElem?_getD, List.getElem?_eq_getElem hiw]; rfl
      have hnew := onH_new (ws := ws) hc
      rw [hg] at hnew
      have hl2 : (onH ws ps (i + 1)).length = (onH ws ps i).length + 1 := by rw [onH_len, onH_len, keepN_succ, hc]; simp
      generalize hR' : rws GShard.enc (onH ws ps (i + 1)) = R' at *
      generalize rws GShard.enc (onH ws ps i) = R0 at *
      generalize hl0 : (onH ws ps i).length = l0 at *
      simp [tm, hiw, hs, encT, rcall109, c1, evalW, source, hrl2, hnew]
      exact ⟨⟨by omega, by omega⟩, i + 1, by omega, by omega, ⟨hl2.symm, by omega⟩, hR'.symm⟩
    · rw [hc] at c1
      have hsame := onH_has (ws := ws) hc
      have hl2 : (onH ws ps (i + 1)).length = (onH ws ps i).length := by rw [hsame]
      have hR' : rws GShard.enc (onH ws ps (i + 1)) = rws GShard.enc (onH ws ps i) := by rw [hsame]
      generalize hl0 : (onH ws ps i).length = l0 at *
      generalize rws GShard.enc (onH ws ps i) = R0 at *
      simp [tm, hiw, hs, encT, rcall109, c1]
      exact ⟨i + 1, by omega, by omega, ⟨hl2.symm, by omega⟩, hR'.symm⟩
  · have : i = ab := by omega
    subst this
    have hiw : ¬ (i : Int) < (ws.length : Int) := by omega
    have hiw2 : ¬ i < ws.length := by omega
    have hrl2 := rws_len (enc := GShard.enc) (onH ws ps i)
    have tH := tkE (enc := GShard.enc) (l := onH ws ps i) rfl
    generalize rws GShard.enc (onH ws ps i) = R0 at *
    generalize (onH ws ps i).length = l0 at *
    simp [tm, hiw, hiw2, hrl2, tH, rcall75, bk, hrl, tR, w3, h5, rcall95, h6, bd, resT]
set_option maxHeartbeats 16000000 in
theorem readLost (K M U S : Int) (ws : List ByteArray) (hl : ws.length ≤ 1048576) (ps : List Int) (hn : ps.length ≤ 1048576) (fr num : Int) : ∃ t e, (∀ k, call code (k + 9) 55 [wV K M U S ws, .rd true (rws encI ps), .int .i64 fr, .int .i64 num] [] = some (resT t e)) ∧
    (∀ k, call code (k + 9) 56 [wV K M U S ws, .rd true (rws encI ps), .int .i64 fr, .int .i64 num] [] = some (resT t e)) := by
  have o1 := fun k => wideOk k K M U S ws hl
  have o2 := fun k => l05OK k K M U S ws hl
  cases hw : wideB K M U S ws
  · rw [hw] at o1 o2
    exact ⟨ByteArray.empty, 1, fun k => call_run rfl fn55 rfl (by simp [F55, rcall49, o1, resT]), fun k => call_run rfl fn56 rfl (by simp [F56, rcall103, o2, resT])⟩
  obtain ⟨a, b, u, n, rfl, rfl, rfl, rfl, h⟩ := wideB_inv hw
  rw [hw] at o1 o2
  have hb3 := h.b3
  have ha4 := h.a4
  have ha1 := h.a1
  have h256 := h.n256
  have z := fun k => size k a b (by omega)
  have i1 := fun k => increasing k ps hn
  have i2 := fun k => allBetween k ps (((a + b : Nat) : Int) - 1) hn
  have i3 := fun k => between k fr 0 n
  have s1 := fun k => l00Rises k ps (((a + b : Nat) : Int) - 1) hn
  have s3 := fun k => l00In k fr 0 n
  have w0 : IntKind.wrap .i64 ((a : Int) + (b : Int)) = ((a + b : Nat) : Int) := by rw [wrap64 ⟨by omega, by omega⟩]; omega
  have w1 : IntKind.wrap .i64 (((a + b : Nat) : Int) - 1) = ((a + b : Nat) : Int) - 1 := wrap64 ⟨by omega, by omega⟩
  rw [risB_eq] at s1
  cases c1 : incB ps
  · rw [c1] at i1 s1
    generalize ps.any (outB (((a + b : Nat) : Int) - 1)) = g at *
    generalize a + b = ab at *
    exact ⟨ByteArray.empty, 2, fun k => call_run rfl fn55 rfl (by simp [F55, rcall49, o1, rcall107, i1, resT]), fun k => call_run rfl fn56 rfl (by simp [F56, rcall103, o2, w0, w1, rcall110, s1, resT])⟩
  cases c2 : ps.any (outB (((a + b : Nat) : Int) - 1))
  rotate_left
  · rw [c1] at i1 s1
    rw [c2] at i2 s1
    clear c2
    generalize a + b = ab at *
    exact ⟨ByteArray.empty, 2, fun k => call_run rfl fn55 rfl (by simp [F55, rcall49, o1, rcall107, i1, rcall96, z, w1, rcall108, i2, resT]), fun k => call_run rfl fn56 rfl (by simp [F56, rcall103, o2, w0, w1, rcall110, s1, resT])⟩
  cases c3 : inB fr 0 n
  · rw [c1] at i1 s1
    rw [c2] at i2 s1
    rw [c3] at i3 s3
    clear c2
    generalize a + b = ab at *
    exact ⟨ByteArray.empty, 2, fun k => call_run rfl fn55 rfl (by simp [F55, rcall49, o1, rcall107, i1, rcall96, z, w1, rcall108, i2, rcall86, i3, resT]), fun k => call_run rfl fn56 rfl (by simp [F56, rcall103, o2, w0, w1, rcall110, s1, rcall77, s3, resT])⟩
  by_cases c4 : num < 0
  · rw [c1] at i1 s1
    rw [c2] at i2 s1
    rw [c3] at i3 s3
    clear c2
    generalize a + b = ab at *
    exact ⟨ByteArray.empty, 2, fun k => call_run rfl fn55 rfl (by simp [F55, rcall49, o1, rcall107, i1, rcall96, z, w1, rcall108, i2, rcall86, i3, c4, resT]), fun k => call_run rfl fn56 rfl (by simp [F56, rcall103, o2, w0, w1, rcall110, s1, rcall77, s3, c4, resT])⟩
  have hcnt := keepN_count c1 c2
  rw [← onH_len ws] at hcnt
  have f1 := fun k => (l05Found k h ps hn).1
  have f2 := fun k => (l05Found k h ps hn).2
  by_cases hle : (onH ws ps (a + b)).length < a
  · have f3 := fun k => f2 k hle
    clear f2
    have w2 : IntKind.wrap .i64 (((a + b : Nat) : Int) - (ps.length : Int)) = (((onH ws ps (a + b)).length : Nat) : Int) := by rw [wrap64 ⟨by omega, by omega⟩]; omega
    rw [c1] at i1 s1
    rw [c2] at i2 s1
    rw [c3] at i3 s3
    clear c2 f1
    generalize (onH ws ps (a + b)).length = l0 at *
    generalize a + b = ab at *
    have hle' : decide ((l0 : Int) < (a : Int)) = true := by simp; omega
    exact ⟨ByteArray.empty, 8, fun k => call_run rfl fn55 rfl (by simp [F55, rcall49, o1, rcall107, i1, rcall96, z, w1, rcall108, i2, rcall86, i3, c4, w2, hle, hle', resT]), fun k => call_run rfl fn56 rfl (by simp [F56, rcall103, o2, w0, w1, rcall110, s1, rcall77, s3, c4, rcall111, f3, storeM, resT])⟩
  obtain ⟨f, rfl⟩ : ∃ f : Nat, fr = f := ⟨fr.toNat, by simp [inB] at c3; omega⟩
  have hf : f ≤ n := by simp [inB] at c3; omega
  obtain ⟨m, hm⟩ : ∃ m : Nat, min num ((n : Int) - f) = m := ⟨(min num ((n : Int) - f)).toNat, by omega⟩
  have gi := fun k => lostGoodI k h hw ps hn hl f m num c1 c2 hf (by omega) hm (by omega)
  have hC := recD_cols h (ps := ps) (by omega)
  have rd := fun k => l05Read k a b u n _ hC f m (by omega)
  have f3 := fun k => f1 k (by omega)
  clear f1
  have hr : rws encT ((recD a b (tallN a u n) (onH ws ps (a + b))).map B) = rowsS (recD a b (tallN a u n) (onH ws ps (a + b))) := rfl
  rw [hr] at rd
  have H := onH_haveF h ps
  have hrl := rowsS_len (recD a b (tallN a u n) (onH ws ps (a + b)))
  rw [recD_len H (by omega)] at hrl
  have tR : (rowsS (recD a b (tallN a u n) (onH ws ps (a + b)))).take a = rowsS (recD a b (tallN a u n) (onH ws ps (a + b))) := List.take_of_length_le (by omega)
  have mn := fun k => l00Min k num ((n : Int) - f)
  rw [hm] at mn
  have w3 : IntKind.wrap .i64 ((n : Int) - (f : Int)) = (n : Int) - f := wrap64 ⟨by omega, by omega⟩
  rw [c1, c2] at s1
  rw [c3] at s3
  clear c2 c1 c3 i1 i2 i3 H hC f2 hr hcnt
  unfold wAV at rd
  generalize B (rdB a u ((recD a b (tallN a u n) (onH ws ps (a + b))).map B) f m) = T at *
  generalize rowsS (recD a b (tallN a u n) (onH ws ps (a + b))) = R at *
  generalize a + b = ab at *
  exact ⟨T, 0, fun k => gi (k + 1), fun k => call_run rfl fn56 rfl (by simp [F56, rcall103, o2, w0, w1, rcall110, s1, rcall77, s3, c4, rcall111, f3, storeM, hrl, tR, w3, rcall112, mn, rcall105, rd, resT])⟩
end Go.Ae.C3
namespace Go.Ae.C3
set_option linter.unusedSimpArgs false
set_option linter.unusedVariables false
set_option maxRecDepth 100000 in
set_option maxHeartbeats 64000000 in
theorem law12 (n : Nat) (K M U S : Int) (ws : List ByteArray) (b1 : ws.length ≤ 140737488351232) (b2 : ∀ x ∈ ws, x.size ≤ 140737488351232) (ps : List Int) (fr num : Int) :
    call code (n + 11) 12 [.agg [.int .i64 K, .int .i64 M, .int .i64 U, .int .i64 S, .rd true (rws encT ws)], .rd true (rws encI ps), .int .i64 fr, .int .i64 num] [] = some ⟨.bool true, [], []⟩ := by
  refine call_run rfl fn12 rfl ?_
  by_cases hps : (1048576 : Int) < ps.length
  · have hps' : 1048576 < ps.length := by omega
    simp [F12, hps, hps']
  have hps' : ¬ 1048576 < ps.length := by omega
  have z1 := fun k => szWide k 1048576 K M U S ws (by omega) b1 b2
  generalize hw : ws.length + wsum ByteArray.size ws = wv at *
  cases g1 : decide (szV 1048576 wv < 0)
  rotate_left
  · obtain ⟨_, e1⟩ := szV_neg g1 (by omega)
    rw [e1] at z1
    simp [F12, hps, hps', rcall52, z1]
  obtain ⟨a1, e1⟩ := szV_pos g1 (by omega)
  rw [e1] at z1 g1
  have a3 : ws.length ≤ 1048576 := by omega
  obtain ⟨t, e, hi, hs⟩ := readLost K M U S ws a3 ps (by omega) fr num
  have t1 := fun k => toWide k K M U S ws a3
  have t2 := fun k => toInt64S k ps (by omega)
  have x1 := fun k => eqWide k K M U S ws (by omega)
  have x2 := fun k => eqInt64S k ps (by omega)
  have k1 := tkE (enc := encT) (l := ws) rfl
  have hrl := rws_len (enc := encT) ws
  have k2 := tkE (enc := encI) (l := ps) rfl
  have hrl2 := rws_len (enc := encI) ps
  simp only [resT] at hi hs
  simp (maxSteps := 20000000) [F12, hps, hps', rcall52, z1, g1, rcall54, t1, rcall57, t2, storeM, rcall56, hs, rcall55, hi, rcall43, x1, rcall26, x2, k1, hrl, k2, hrl2]
theorem lawReadLost (avs : List AV) (h : PFitsAll [(true, [.int .i64, .int .i64, .int .i64, .int .i64, .sl 16 [.str]]), (false, [.sl 8 [.int .i64]]), (false, [.int .i64]), (false, [.int .i64])] avs) : ∃ n bs e, call code n 12 avs [] = some ⟨.bool true, bs, e⟩ := by
  obtain ⟨v0, r, rfl, h0, h⟩ := h.cons_inv
  obtain ⟨v1, r, rfl, h1, h⟩ := h.cons_inv
  obtain ⟨v2, r, rfl, h2, h⟩ := h.cons_inv
  obtain ⟨v3, r, rfl, h3, h⟩ := h.cons_inv
  obtain rfl := h.nil_inv
  obtain ⟨cs, rfl, f0⟩ := h0.agg_inv
  obtain ⟨_, _, rfl, c0, f0⟩ := f0.cons_inv
  obtain ⟨_, _, rfl, c1, f0⟩ := f0.cons_inv
  obtain ⟨_, _, rfl, c2, f0⟩ := f0.cons_inv
  obtain ⟨_, _, rfl, c3, f0⟩ := f0.cons_inv
  obtain ⟨_, _, rfl, c4, f0⟩ := f0.cons_inv
  obtain rfl := f0.nil_inv
  obtain ⟨a, rfl, _⟩ := c0.i64_inv
  obtain ⟨b, rfl, _⟩ := c1.i64_inv
  obtain ⟨u, rfl, _⟩ := c2.i64_inv
  obtain ⟨s, rfl, _⟩ := c3.i64_inv
  obtain ⟨xs, rfl, hl, hr⟩ := c4.sl_inv
  obtain ⟨ws, rfl, hz⟩ := fitStringS hr
  rw [rws_len] at hl
  obtain ⟨ys, rfl, _, hr2⟩ := h1.one_inv.sl_inv
  obtain ⟨ps, rfl, _⟩ := fitInt64S hr2
  obtain ⟨fr, rfl, _⟩ := h2.one_inv.i64_inv
  obtain ⟨num, rfl, _⟩ := h3.one_inv.i64_inv
  exact ⟨_, _, _, law12 0 a b u s ws (by omega) hz ps fr num⟩
end Go.Ae.C3
