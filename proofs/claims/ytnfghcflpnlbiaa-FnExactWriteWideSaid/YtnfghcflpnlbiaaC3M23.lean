/- The law FnExactWriteWide. -/
import Derived.Test.YtnfghcflpnlbiaaC3M22
import Derived.Test.YtnfghcflpnlbiaaC3M21
namespace Go.Ae.C3
set_option linter.unusedSimpArgs false
set_option linter.unusedVariables false
theorem nilT : rws encT [] = [] := rfl
set_option maxRecDepth 100000 in
set_option maxHeartbeats 64000000 in
theorem writeErrI (k : Nat) (x0 : AV) (at_ : Int) (s : ByteArray) (K M U S : Int) (ws : List ByteArray) (e : Int) (he : e = 1 ∨ e = 2) (h0 : x0 = .agg [.int .i64 K, .int .i64 M, .int .i64 U, .int .i64 S, .rd true (rws encT ws)])
    (hd : ∀ k, call code (k + 9) 59 [.agg [.int .i64 K, .int .i64 M, .int .i64 U, .int .i64 S, .rd true (rws encT ws)], .int .i64 at_, .str s] [] = some (resDe [] e)) :
    call code (k + 10) 64 [.agg [.int .i64 K, .int .i64 M, .int .i64 U, .int .i64 S, .rd true (rws encT ws)], .int .i64 at_, .str s] [] = some (resWE 0 0 0 0 [] e) := by
  refine call_run rfl fn64 rfl ?_
  simp only [resDe] at hd
  rcases he with rfl | rfl <;> simp [F64, rcall59, hd, storeM, nilE, nilT, resWE]
set_option maxRecDepth 100000 in
set_option maxHeartbeats 16000000 in
theorem writeWides (K M U S : Int) (ws : List ByteArray) (hl : ws.length ≤ 1048576) (at_ : Int) (s : ByteArray) (hs : s.size ≤ 1048576) : ∃ v0 v1 v2 v3 C e, (∀ k, call code (k + 10) 64 [.agg [.int .i64 K, .int .i64 M, .int .i64 U, .int .i64 S, .rd true (rws encT ws)], .int .i64 at_, .str s] [] = some (resWE v0 v1 v2 v3 C e)) ∧
    (∀ k, call code (k + 10) 63 [.agg [.int .i64 K, .int .i64 M, .int .i64 U, .int .i64 S, .rd true (rws encT ws)], .int .i64 at_, .str s] [] = some (resWE v0 v1 v2 v3 C e)) ∧ C.length ≤ 8 := by
  have o1 := fun k => wideOk k K M U S ws hl
  have o2 := fun k => l05OK k K M U S ws hl
  cases hw : wideB K M U S ws
  · rw [hw] at o1 o2
    have d := fun k => (call_run rfl fn59 rfl (by simp [F59, rcall49, o1, resDe, nilE]) : call code (k + 9) 59 [.agg [.int .i64 K, .int .i64 M, .int .i64 U, .int .i64 S, .rd true (rws encT ws)], .int .i64 at_, .str s] [] = some (resDe [] 1))
    exact ⟨0, 0, 0, 0, [], 1, fun k => writeErrI k _ at_ s K M U S ws 1 (.inl rfl) rfl d, fun k => call_run rfl fn63 rfl (by simp [F63, rcall103, o2, storeM, resWE, nilT]), by simp⟩
  obtain ⟨a, b, u, n, rfl, rfl, rfl, rfl, h⟩ := wideB_inv hw
  rw [hw] at o1 o2
  obtain ⟨t, rfl⟩ : ∃ t, s = B t := ⟨s.data.toList, (B_eta s).symm⟩
  have hts : (B t).size = t.length := by show t.toArray.size = _; simp
  rw [hts] at hs
  have ha4 := h.a4
  have hb3 := h.b3
  have h256 := h.n256
  have i3 := fun k => between k at_ 0 n
  have wi := fun k => l05Within k a b u n (rws encT ws) at_ t h256 hs
  unfold wAV at wi
  cases c3 : inB at_ 0 n
  · rw [c3] at i3 wi
    have d := fun k => (call_run rfl fn59 rfl (by simp [F59, rcall49, o1, rcall86, i3, resDe, nilE]) : call code (k + 9) 59 [.agg [.int .i64 a, .int .i64 b, .int .i64 u, .int .i64 n, .rd true (rws encT ws)], .int .i64 at_, .str (B t)] [] = some (resDe [] 2))
    exact ⟨0, 0, 0, 0, [], 2, fun k => writeErrI k _ at_ (B t) a b u n ws 2 (.inr rfl) rfl d, fun k => call_run rfl fn63 rfl (by simp [F63, rcall103, o2, rcall113, wi, storeM, resWE, nilT]), by simp⟩
  obtain ⟨f, rfl⟩ : ∃ f : Nat, at_ = f := ⟨at_.toNat, by simp [inB] at c3; omega⟩
  have hf : f ≤ n := by simp [inB] at c3; omega
  have w3 : IntKind.wrap .i64 ((n : Int) - (f : Int)) = (n : Int) - f := wrap64 ⟨by omega, by omega⟩
  by_cases hfm : f + t.length ≤ n
  rotate_left
  · have d1 : ((n : Int) - f < t.length) := by omega
    have d2 : ¬ ((t.length : Int) ≤ (n : Int) - f) := by omega
    rw [c3] at i3 wi
    simp only [d2, decide_false, Bool.and_false] at wi
    have d := fun k => (call_run rfl fn59 rfl (by simp [F59, rcall49, o1, rcall86, i3, w3, d1, hts, resDe, nilE]) : call code (k + 9) 59 [.agg [.int .i64 a, .int .i64 b, .int .i64 u, .int .i64 n, .rd true (rws encT ws)], .int .i64 f, .str (B t)] [] = some (resDe [] 2))
    exact ⟨0, 0, 0, 0, [], 2, fun k => writeErrI k _ f (B t) a b u n ws 2 (.inr rfl) rfl d, fun k => call_run rfl fn63 rfl (by simp [F63, rcall103, o2, rcall113, wi, storeM, resWE, nilT]), by simp⟩
  have d2 : ((t.length : Int) ≤ (n : Int) - f) := by omega
  rw [c3] at wi
  simp only [d2, decide_true, Bool.and_true] at wi
  have htl := tallN_le (n := n) h.a1 h.u1
  have hu8 := h.u8
  have dG := fun k => deltasOfG k (f := f) (t := t) h hfm
  have de := fun k => l05Deltas k (f := f) (t := t) h hfm
  unfold wAV at de
  have ok := dAll_ok h hfm
  have hL := dAll_le a b u n ws t f (by omega) (by omega)
  exact ⟨a, b, u, n, (dAll a b u ws t f).foldl tkD ws, 0, fun k => writeWideI k h.cls (by omega) (by omega) f (B t) _ hL ok dG, fun k => writeWideS k h.cls (by omega) (by omega) f (B t) _ hL ok o2 wi de, by rw [(h.cls.fold _ ok).len]; omega⟩
set_option maxRecDepth 100000 in
set_option maxHeartbeats 64000000 in
theorem law14 (n : Nat) (K M U S : Int) (ws : List ByteArray) (b1 : ws.length ≤ 140737488351232) (b2 : ∀ x ∈ ws, x.size ≤ 140737488351232) (at_ : Int) (s : ByteArray) :
    call code (n + 12) 14 [.agg [.int .i64 K, .int .i64 M, .int .i64 U, .int .i64 S, .rd true (rws encT ws)], .int .i64 at_, .str s] [] = some ⟨.bool true, [], []⟩ := by
  refine call_run rfl fn14 rfl ?_
  by_cases hps : (1048576 : Int) < s.size
  · simp [F14, hps]
  have z1 := fun k => szWide k 1048576 K M U S ws (by omega) b1 b2
  generalize hw : ws.length + wsum ByteArray.size ws = wv at *
  cases g1 : decide (szV 1048576 wv < 0)
  rotate_left
  · obtain ⟨_, e1⟩ := szV_neg g1 (by omega)
    rw [e1] at z1
    simp [F14, hps, rcall52, z1]
  obtain ⟨a1, e1⟩ := szV_pos g1 (by omega)
  rw [e1] at z1 g1
  have a3 : ws.length ≤ 1048576 := by omega
  obtain ⟨v0, v1, v2, v3, C, e, hi, hs, hC⟩ := writeWides K M U S ws a3 at_ s (by omega)
  have t1 := fun k => toWide k K M U S ws a3
  have x1 := fun k => eqWide k K M U S ws (by omega)
  have x2 := fun k => eqWide k v0 v1 v2 v3 C (by omega)
  have m1 := fun k lv E S' hlv hg => markWide k lv E K M U S ws S' 1 (by omega) hlv (by omega) hg
  have m2 := fun k lv E S' hlv hg => markWide k lv E v0 v1 v2 v3 C S' 1 (by omega) hlv (by omega) hg
  have hh := fun k => heldWide k v0 v1 v2 v3 C.length 1 (by omega) (by omega)
  have hp1 := fun (l : Heap) (S' : Nat) (hh : l.set S' (some ⟨0, 1, false, true, rws encT ws⟩) = l) => hpm_all (enc := encT) (sz := 1) (mk := mkT) (l := l) (S := S') (c := 1) (ws := ws) hh
  have hp2 := fun (l : Heap) (S' : Nat) (hh : l.set S' (some ⟨0, 1, false, true, rws encT C⟩) = l) => hpm_all (enc := encT) (sz := 1) (mk := mkT) (l := l) (S := S') (c := 1) (ws := C) hh
  have k1 := tkE (enc := encT) (l := ws) rfl
  have k2 := tkE (enc := encT) (l := C) rfl
  have k4 := fun c n => tkE (enc := encT) (marks_len mkT c n)
  have hrl := rws_len (enc := encT) ws
  have hrl2 := rws_len (enc := encT) C
  have d1 : decide (1 + (ws.length : Int) < 0) = false := by simp <;> omega
  have d2 : decide (1 + (C.length : Int) < 0) = false := by simp <;> omega
  simp only [resWE] at hi hs
  simp (maxSteps := 20000000) [F14, hps, rcall52, z1, g1, rcall54, t1, storeM, rcall63, hs, rcall64, hi, rcall43, x1, x2, rcall44, m1, m2, rcall45, hh, hp1, hp2, k1, k2, k4, hrl, hrl2, d1, d2]
theorem lawWriteWide (avs : List AV) (h : PFitsAll [(true, [.int .i64, .int .i64, .int .i64, .int .i64, .sl 16 [.str]]), (false, [.int .i64]), (false, [.str])] avs) : ∃ n bs e, call code n 14 avs [] = some ⟨.bool true, bs, e⟩ := by
  obtain ⟨v0, r, rfl, h0, h⟩ := h.cons_inv
  obtain ⟨v1, r, rfl, h1, h⟩ := h.cons_inv
  obtain ⟨v2, r, rfl, h2, h⟩ := h.cons_inv
  obtain rfl := h.nil_inv
  obtain ⟨cs, rfl, f0⟩ := h0.agg_inv
  obtain ⟨_, _, rfl, c0, f0⟩ := f0.cons_inv
  obtain ⟨_, _, rfl, c1, f0⟩ := f0.cons_inv
  obtain ⟨_, _, rfl, c2, f0⟩ := f0.cons_inv
  obtain ⟨_, _, rfl, c3, f0⟩ := f0.cons_inv
  obtain ⟨_, _, rfl, c4, f0⟩ := f0.cons_inv
  obtain rfl := f0.nil_inv
  obtain ⟨a, rfl, _⟩ := c0.i64_inv
  obtain ⟨b, rfl, _⟩ := c1.i64_inv
  obtain ⟨u, rfl, _⟩ := c2.i64_inv
  obtain ⟨s, rfl, _⟩ := c3.i64_inv
  obtain ⟨xs, rfl, hl, hr⟩ := c4.sl_inv
  obtain ⟨ws, rfl, hz⟩ := fitStringS hr
  rw [rws_len] at hl
  obtain ⟨fr, rfl, _⟩ := h1.one_inv.i64_inv
  obtain ⟨t, rfl, _⟩ := h2.one_inv.str_inv
  exact ⟨_, _, _, law14 0 a b u s ws (by omega) hz fr t⟩
end Go.Ae.C3
