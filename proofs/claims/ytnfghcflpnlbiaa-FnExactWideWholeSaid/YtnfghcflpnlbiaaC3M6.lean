/- WideWhole, the program's and the reference's; the law. -/
import Derived.Test.YtnfghcflpnlbiaaC3M5
namespace Go.Ae.C3
set_option linter.unusedSimpArgs false
set_option linter.unusedVariables false
def neAt (xs ys : List ByteArray) (i : Nat) : Bool := !((xs.getD i ByteArray.empty).toList == (ys.getD i ByteArray.empty).toList)
/-- Two lists of one length: the same texts. -/
def sameB (xs ys : List ByteArray) : Bool := (List.range xs.length).all fun i => !neAt xs ys i
theorem sameB_true {xs ys : List ByteArray} (h : ∀ i, i < xs.length → neAt xs ys i = false) : sameB xs ys = true := by
  unfold sameB; rw [List.all_eq_true]; intro i hi; rw [h i (List.mem_range.1 hi)]; rfl
theorem sameB_false {xs ys : List ByteArray} {i : Nat} (hi : i < xs.length) (h : neAt xs ys i = true) : sameB xs ys = false := by
  unfold sameB; rw [List.all_eq_false]; exact ⟨i, List.mem_range.2 hi, by simp [h]⟩
theorem neAt_get {xs ys : List ByteArray} {i : Nat} (h : i < xs.length) (h' : i < ys.length) : neAt xs ys i = !(xs[i].toList == ys[i].toList) := by
  unfold neAt; rw [List.getD_eq_getElem?_getD, List.getD_eq_getElem?_getD, List.getElem?_eq_getElem h, List.getElem?_eq_getElem h']; rfl
set_option maxHeartbeats 4000000 in
theorem equalS (k : Nat) (xs ys : List ByteArray) (hn : xs.length ≤ 1048576) (hl : ys.length = xs.length) : call code (k + 1) 100 [.rd true (rws encT xs), .rd true (rws encT ys)] [] = some ⟨.bool (sameB xs ys), [], []⟩ := by
  refine call_run rfl fn100 rfl ?_
  simp [F100, hl]
  refine RunC_loop (fun i : Nat => ⟨tm 26 [(0, .rd true (rws encT xs)), (1, .rd true (rws encT ys)), (12, .int .i64 xs.length), (13, .int .i64 i)], [], []⟩)
    (fun i => i ≤ xs.length ∧ ∀ j, j < i → neAt xs ys j = false) (fun i => xs.length - i) 0 ⟨Nat.zero_le _, fun j hj => by omega⟩ (by simp; omega) (by simp [tm]) fun i hi _ => ?_
  obtain ⟨hi, hall⟩ := hi
  by_cases hlt : i < xs.length
  · have hs := idx_succ' hlt (by omega)
    have hly : i < ys.length := by omega
    have hg := neAt_get hlt hly
    have hfin : neAt xs ys i = true → sameB xs ys = false := sameB_false hlt
    cases hd : neAt xs ys i
    · have hnx : ∀ j, j < i + 1 → neAt xs ys j = false := fun j h => by
        rcases Nat.lt_succ_iff_lt_or_eq.1 h with h' | rfl
        · exact hall j h'
        · exact hd
      rw [hd] at hg
      simp [tm, hlt, hly, hs, encT, ← hg]
      exact ⟨i + 1, ⟨by omega, hnx⟩, by omega, by simp⟩
    · rw [hfin hd]
      rw [hd] at hg
      simp [tm, hlt, hly, hs, encT, ← hg]
  · have : i = xs.length := by omega
    subst this
    rw [sameB_true hall]
    simp [tm]
set_option maxHeartbeats 4000000 in
theorem l05Same (k : Nat) (a b u n : Int) (xs ys : List ByteArray) (hn : xs.length ≤ 1048576) (hl : ys.length = xs.length) : call code (k + 1) 104 [.agg [.int .i64 a, .int .i64 b, .int .i64 u, .int .i64 n, .rd true (rws encT xs)], .agg [.int .i64 a, .int .i64 b, .int .i64 u, .int .i64 n, .rd true (rws encT ys)]] [] = some ⟨.bool (sameB xs ys), [], []⟩ := by
  refine call_run rfl fn104 rfl ?_
  simp [F104, hl]
  refine RunC_loop (fun i : Nat => ⟨tm 52 [(2, .ptr 0 0 0 [] 0 0), (3, .ptr 0 256 0 [] 0 0), (5, .int .i64 i)], [(0, some ⟨0, 5, true, false, [[.int .i64 a, .int .i64 b, .int .i64 u, .int .i64 n, .rd true (rws encT xs)]]⟩), (256, some ⟨0, 5, true, false, [[.int .i64 a, .int .i64 b, .int .i64 u, .int .i64 n, .rd true (rws encT ys)]]⟩)], []⟩)
    (fun i => i ≤ xs.length ∧ ∀ j, j < i → neAt xs ys j = false) (fun i => xs.length - i) 0 ⟨Nat.zero_le _, fun j hj => by omega⟩ (by simp; omega) (by simp [tm]) fun i hi _ => ?_
  obtain ⟨hi, hall⟩ := hi
  by_cases hlt : i < xs.length
  · have hs := idx_succ' hlt (by omega)
    have hly : i < ys.length := by omega
    have hg := neAt_get hlt hly
    have hfin : neAt xs ys i = true → sameB xs ys = false := sameB_false hlt
    cases hd : neAt xs ys i
    · have hnx : ∀ j, j < i + 1 → neAt xs ys j = false := fun j h => by
        rcases Nat.lt_succ_iff_lt_or_eq.1 h with h' | rfl
        · exact hall j h'
        · exact hd
      rw [hd] at hg
      simp [tm, hlt, hly, hs, encT, ← hg]
      exact ⟨i + 1, ⟨by omega, hnx⟩, by omega, by simp⟩
    · rw [hfin hd]
      rw [hd] at hg
      simp [tm, hlt, hly, hs, encT, ← hg]
  · have : i = xs.length := by omega
    subst this
    rw [sameB_true hall]
    simp [tm]
set_option maxHeartbeats 4000000 in
theorem wideWhole (K M U S : Int) (ws : List ByteArray) (hl : ws.length ≤ 1048576) : ∃ r, (∀ k, call code (k + 8) 50 [.agg [.int .i64 K, .int .i64 M, .int .i64 U, .int .i64 S, .rd true (rws encT ws)]] [] = some ⟨.bool r, [], []⟩) ∧
    (∀ k, call code (k + 8) 53 [.agg [.int .i64 K, .int .i64 M, .int .i64 U, .int .i64 S, .rd true (rws encT ws)]] [] = some ⟨.bool r, [], []⟩) := by
  have o1 := fun k => wideOk k K M U S ws hl
  have o2 := fun k => l05OK k K M U S ws hl
  cases hw : wideB K M U S ws
  · rw [hw] at o1 o2
    exact ⟨false, fun k => call_run rfl fn50 rfl (by simp [F50, rcall49, o1]), fun k => call_run rfl fn53 rfl (by simp [F53, rcall103, o2])⟩
  obtain ⟨a, b, u, n, rfl, rfl, rfl, rfl, h⟩ := wideB_inv hw
  rw [hw] at o1 o2
  have bd := fun k R => h.body k 0 n (by omega) R
  have rd := fun k => l05Read k a b u n ws h 0 n (by omega)
  have hlr := rdB_len a u ws 0 n
  have hu : 1 ≤ u ∧ u ≤ 8 := ⟨h.u1, h.u8⟩
  have im := fun k => wideOf k a b u (rdB a u ws 0 n) ⟨h.a1, h.a4⟩ h.b3 hu (by rw [hlr]; exact h.n256)
  have sp := fun k => l05Of k a b u (rdB a u ws 0 n) ⟨h.a1, h.a4⟩ h.b3 hu (by rw [hlr]; exact h.n256)
  have hwl := wid_len a b u (rdB a u ws 0 n)
  rw [hlr] at im sp
  generalize rdB a u ws 0 n = bs at *
  generalize hC : wid a b u bs = C at *
  have hCl : (C.map B).length = ws.length := by rw [List.length_map, hwl, h.len]
  have eq := fun k => equalS k ws (C.map B) hl hCl
  have sm := fun k => l05Same k a b u n ws (C.map B) hl hCl
  have hr : rws encT (C.map B) = rowsS C := rfl
  have hsl := rowsS_len C
  rw [hr] at eq sm
  have htk : (rowsS C).take C.length = rowsS C := List.take_of_length_le (by omega)
  simp only [resW] at im sp
  generalize sameB ws (C.map B) = r at *
  unfold wAV at rd
  generalize rowsS C = R at *
  generalize C.length = cl at *
  have c0 : ((0 : Nat) : Int) = 0 := rfl
  simp only [c0] at bd rd
  refine ⟨r, fun k => call_run rfl fn50 rfl ?_, fun k => call_run rfl fn53 rfl ?_⟩
  · simp [F50, rcall49, o1, rcall95, bd, rcall90, im, rcall100, eq, hsl, htk]
  · simp [F53, rcall103, o2, rcall105, rd, rcall89, sp, rcall104, sm, hsl, htk]
end Go.Ae.C3
namespace Go.Ae.C3
set_option linter.unusedSimpArgs false
set_option linter.unusedVariables false
set_option maxRecDepth 100000 in
set_option maxHeartbeats 64000000 in
theorem law10 (n : Nat) (K M U S : Int) (ws : List ByteArray) (b1 : ws.length ≤ 140737488351232) (b2 : ∀ x ∈ ws, x.size ≤ 140737488351232) :
    call code (n + 11) 10 [.agg [.int .i64 K, .int .i64 M, .int .i64 U, .int .i64 S, .rd true (rws encT ws)]] [] = some ⟨.bool true, [], []⟩ := by
  refine call_run rfl fn10 rfl ?_
  have z1 := fun k => szWide k 1048576 K M U S ws (by omega) b1 b2
  generalize hw : ws.length + wsum ByteArray.size ws = wv at *
  cases g1 : decide (szV 1048576 wv < 0)
  rotate_left
  · obtain ⟨_, e1⟩ := szV_neg g1 (by omega)
    rw [e1] at z1
    simp [F10, rcall52, z1]
  obtain ⟨a1, e1⟩ := szV_pos g1 (by omega)
  rw [e1] at z1 g1
  have a3 : ws.length ≤ 1048576 := by omega
  obtain ⟨r, hi, hs⟩ := wideWhole K M U S ws a3
  have t1 := fun k => toWide k K M U S ws a3
  have x1 := fun k => eqWide k K M U S ws (by omega)
  have k1 := tkE (enc := encT) (l := ws) rfl
  have hrl := rws_len (enc := encT) ws
  simp (maxSteps := 20000000) [F10, rcall52, z1, g1, rcall54, t1, storeM, rcall53, hs, rcall50, hi, rcall43, x1, k1, hrl]
theorem wide_inv {v : AV} (h : PFitsAll [(true, [.int .i64, .int .i64, .int .i64, .int .i64, .sl 16 [.str]])] [v]) : ∃ (K M U S : Int) (ws : List ByteArray), v = .agg [.int .i64 K, .int .i64 M, .int .i64 U, .int .i64 S, .rd true (rws encT ws)] ∧ ws.length ≤ 140737488351232 ∧ ∀ x ∈ ws, x.size ≤ 140737488351232 := by
  obtain ⟨v0, r, e, h0, h⟩ := h.cons_inv
  cases e
  obtain ⟨cs, rfl, f0⟩ := h0.agg_inv
  obtain ⟨_, _, rfl, c0, f0⟩ := f0.cons_inv
  obtain ⟨_, _, rfl, c1, f0⟩ := f0.cons_inv
  obtain ⟨_, _, rfl, c2, f0⟩ := f0.cons_inv
  obtain ⟨_, _, rfl, c3, f0⟩ := f0.cons_inv
  obtain ⟨_, _, rfl, c4, f0⟩ := f0.cons_inv
  obtain rfl := f0.nil_inv
  obtain ⟨a, rfl, _⟩ := c0.i64_inv
  obtain ⟨b, rfl, _⟩ := c1.i64_inv
  obtain ⟨u, rfl, _⟩ := c2.i64_inv
  obtain ⟨s, rfl, _⟩ := c3.i64_inv
  obtain ⟨xs, rfl, hl, hr⟩ := c4.sl_inv
  obtain ⟨ws, rfl, hz⟩ := fitStringS hr
  rw [rws_len] at hl
  exact ⟨a, b, u, s, ws, rfl, by omega, hz⟩
theorem lawWideWhole (avs : List AV) (h : PFitsAll [(true, [.int .i64, .int .i64, .int .i64, .int .i64, .sl 16 [.str]])] avs) : ∃ n bs e, call code n 10 avs [] = some ⟨.bool true, bs, e⟩ := by
  obtain ⟨v0, r, rfl, h0, h'⟩ := h.cons_inv
  obtain rfl := h'.nil_inv
  obtain ⟨a, b, u, s, ws, rfl, hl, hz⟩ := wide_inv h
  exact ⟨_, _, _, law10 0 a b u s ws hl hz⟩
end Go.Ae.C3
