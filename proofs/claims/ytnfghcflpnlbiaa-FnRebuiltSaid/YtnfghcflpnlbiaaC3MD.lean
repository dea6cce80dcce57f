/- Rebuild, the program's and the reference's; the law FnExactRebuild. -/
import Derived.Test.YtnfghcflpnlbiaaC3MC
namespace Go.Ae.C3
set_option linter.unusedSimpArgs false
set_option linter.unusedVariables false
/-- All shards, out of what is on hand. -/
def anewD (a b q : Nat) (ws : List GShard) : List (List UInt8) := pcs (gN a b) (a + b) a (recD a b q ws) q
theorem anewD_len (a b q : Nat) (ws : List GShard) : (anewD a b q ws).length = a + b := by simp [anewD, pcs_len]
theorem l04Anew (k : Nat) {a b q : Nat} {ws : List GShard} (H : HaveF a b q ws) (h : a ≤ ws.length) (hq : q ≤ 1048576) :
    call code (k + 8) 78 [.agg [.int .i64 a, .int .i64 b], .rd true (rws GShard.enc ws)] [] = some ⟨.sl 0 0 0 [] 0 (a + b), [⟨0, 1, false, true, rowsS (anewD a b q ws)⟩], []⟩ := by
  refine call_run rfl fn78 rfl ?_
  have h1 := H.a1
  have h2 := H.b1
  have hkm : a + b ≤ 8 := by omega
  have r1 := fun k => l04Back k H h hq
  have hD := recD_len H h
  have hDa := recD_all H h
  have gg := fun n => l03Code n a b h1.1 hkm
  have hgl := gN_len (k := a) (m := b)
  rw [← gN_cast hkm] at gg
  have hgl2 : (castL (gN a b)).length = (a + b) * a := by rw [castL_len, hgl]
  rw [hgl2] at gg
  have pp := fun n => l03Pieces n (a + b) a (gN a b) (recD a b q ws) q hkm ⟨h1.1, by omega⟩ hgl (gN_lt hkm) hD hDa hq
  unfold anewD
  have hrl : (rowsS (recD a b q ws)).length = a := by rw [rowsS_len, hD]
  have tk : (rowsS (recD a b q ws)).take a = rowsS (recD a b q ws) := List.take_of_length_le (by omega)
  have hgrl : (rowsZ (castL (gN a b))).length = (a + b) * a := by rw [rowsZ_len, hgl2]
  have tG : (rowsZ (castL (gN a b))).take ((a + b) * a) = rowsZ (castL (gN a b)) := List.take_of_length_le (by omega)
  have hPl : (rowsS (pcs (gN a b) (a + b) a (recD a b q ws) q)).length = a + b := by rw [rowsS_len, pcs_len]
  generalize rowsS (pcs (gN a b) (a + b) a (recD a b q ws) q) = PP at *
  generalize rowsS (recD a b q ws) = R at *
  generalize rowsZ (castL (gN a b)) = X at *
  generalize (a + b) * a = aba at *
  generalize a + b = ab at *
  simp [F78, rcall133, gg, rcall124, r1, tG, hgrl, tk, hrl, rcall132, pp, hPl]
theorem rebuildGood {a b n : Nat} {ws : List GShard} {p : Nat} (hb : haveB a b n ws = true) (H : HaveF a b (psz a n) ws) (hn : n ≤ 64) (h : a ≤ ws.length) (hl : ws.length ≤ 1048576) (hp : p < a + b) :
    (∀ k, call code (k + 9) 23 [.agg [.int .i64 a, .int .i64 b], .int .i64 n, .rd true (rws GShard.enc ws), .int .i64 p] [] = some (resT (B ((anewD a b (psz a n) ws).getD p [])) 0)) ∧
    ∀ k, call code (k + 9) 22 [.agg [.int .i64 a, .int .i64 b], .int .i64 n, .rd true (rws GShard.enc ws), .int .i64 p] [] = some (resT (B ((anewD a b (psz a n) ws).getD p [])) 0) := by
  have ha := H.a1
  have hbb := H.b1
  have hpz := psz_le (n := n) ha.1
  have h1 := fun k => haveOk k a b n ws hl
  have h2 := fun k => l04Have k a b n ws hl
  rw [hb] at h1 h2
  have r1 := fun k => recovered k H h (by omega)
  have r2 := fun k => l04Anew k H h (by omega)
  have hD := recD_len H h
  have en := fun k => encoded k a b (recD a b (psz a n) ws) (psz a n) ha.1 (by omega) hD (recD_all H h) (by omega)
  have hA := anewD_len a b (psz a n) ws
  rw [show pcs (gN a b) (a + b) a (recD a b (psz a n) ws) (psz a n) = anewD a b (psz a n) ws from rfl] at en
  have hg : ∀ h, (rowsS (anewD a b (psz a n) ws))[p]'h = [.str (B ((anewD a b (psz a n) ws).getD p []))] := fun h => rowsS_at (by omega) h
  have hrl : (rowsS (recD a b (psz a n) ws)).length = a := by rw [rowsS_len, hD]
  have tk : (rowsS (recD a b (psz a n) ws)).take a = rowsS (recD a b (psz a n) ws) := List.take_of_length_le (by omega)
  have hAl : (rowsS (anewD a b (psz a n) ws)).length = a + b := by rw [rowsS_len, hA]
  have hlt : decide ((ws.length : Int) < (a : Int)) = false := by simp; omega
  have hlt' : ¬ ws.length < a := by omega
  have ip := fun k => isPos k a b p (by omega)
  have li := fun k => l00In k p 0 (((a + b : Nat) : Int) - 1)
  have s1 : IntKind.wrap .i64 ((a : Int) + (b : Int)) = ((a + b : Nat) : Int) := by rw [wrap64 ⟨by omega, by omega⟩]; omega
  have s2 : IntKind.wrap .i64 (((a + b : Nat) : Int) - 1) = ((a + b : Nat) : Int) - 1 := wrap64 ⟨by omega, by omega⟩
  have hin : inB (p : Int) 0 (((a + b : Nat) : Int) - 1) = true := by simp [inB]; omega
  rw [hin] at ip li
  generalize B ((anewD a b (psz a n) ws).getD p []) = T at *
  generalize rowsS (anewD a b (psz a n) ws) = A at *
  generalize rowsS (recD a b (psz a n) ws) = R at *
  clear hin hD hA
  generalize a + b = ab at *
  refine ⟨fun k => ?_, fun k => ?_⟩
  · refine call_run rfl fn23 rfl ?_
    simp [F23, rcall36, h1, rcall79, ip, hlt, hlt', rcall75, r1, tk, hrl, rcall80, en, hAl, hp, hg, resT]
  · refine call_run rfl fn22 rfl ?_
    simp [F22, rcall70, h2, s1, s2, rcall77, li, hlt, hlt', rcall78, r2, hAl, hp, hg, resT]
/-- What both answer. -/
theorem rebuildBoth (K M sz p : Int) (ws : List GShard) (hl : ws.length ≤ 1048576) : ∃ t e, (∀ k, call code (k + 9) 23 [.agg [.int .i64 K, .int .i64 M], .int .i64 sz, .rd true (rws GShard.enc ws), .int .i64 p] [] = some (resT t e)) ∧ ∀ k, call code (k + 9) 22 [.agg [.int .i64 K, .int .i64 M], .int .i64 sz, .rd true (rws GShard.enc ws), .int .i64 p] [] = some (resT t e) := by
  have h1 := fun k => haveOk k K M sz ws hl
  have h2 := fun k => l04Have k K M sz ws hl
  cases hb : haveB K M sz ws
  · rw [hb] at h1 h2
    refine ⟨ByteArray.empty, 1, fun k => ?_, fun k => ?_⟩
    · refine call_run rfl fn23 rfl ?_
      simp [F23, rcall36, h1, resT]
    · refine call_run rfl fn22 rfl ?_
      simp [F22, rcall70, h2, resT]
  · obtain ⟨a, b, n, rfl, rfl, rfl, hn, H⟩ := haveB_inv hb
    have ha := H.a1
    have hbb := H.b1
    have ip := fun k => isPos k a b p (by omega)
    have li := fun k => l00In k p 0 (((a + b : Nat) : Int) - 1)
    have s1 : IntKind.wrap .i64 ((a : Int) + (b : Int)) = ((a + b : Nat) : Int) := by rw [wrap64 ⟨by omega, by omega⟩]; omega
    have s2 : IntKind.wrap .i64 (((a + b : Nat) : Int) - 1) = ((a + b : Nat) : Int) - 1 := wrap64 ⟨by omega, by omega⟩
    cases hin : inB p 0 (((a + b : Nat) : Int) - 1)
    · rw [hb] at h1 h2
      rw [hin] at ip li
      generalize a + b = ab at *
      refine ⟨ByteArray.empty, 2, fun k => ?_, fun k => ?_⟩
      · refine call_run rfl fn23 rfl ?_
        simp [F23, rcall36, h1, rcall79, ip, resT]
      · refine call_run rfl fn22 rfl ?_
        simp [F22, rcall70, h2, s1, s2, rcall77, li, resT]
    · by_cases hlt : ws.length < a
      · rw [hb] at h1 h2
        rw [hin] at ip li
        generalize a + b = ab at *
        refine ⟨ByteArray.empty, 8, fun k => ?_, fun k => ?_⟩
        · refine call_run rfl fn23 rfl ?_
          simp [F23, rcall36, h1, rcall79, ip, hlt, resT]
        · refine call_run rfl fn22 rfl ?_
          simp [F22, rcall70, h2, s1, s2, rcall77, li, hlt, resT]
      · simp [inB] at hin
        obtain ⟨p', rfl⟩ : ∃ p' : Nat, p = p' := ⟨p.toNat, by omega⟩
        obtain ⟨g1, g2⟩ := rebuildGood (p := p') hb H hn (by omega) hl (by omega)
        exact ⟨_, _, g1, g2⟩
set_option maxRecDepth 100000 in
set_option maxHeartbeats 64000000 in
theorem law4 (n : Nat) (K M sz p : Int) (ws : List GShard) (b1 : ws.length ≤ 140737488351232) (b2 : ∀ x ∈ ws, x.ok) :
    call code (n + 11) 4 [.agg [.int .i64 K, .int .i64 M], .int .i64 sz, .rd true (rws GShard.enc ws), .int .i64 p] [] = some ⟨.bool true, [], []⟩ := by
  refine call_run rfl fn4 rfl ?_
  have z1 := fun k => szShardS k 1048576 ws (by omega) b1 b2
  generalize hw : ws.length + wsum GShard.wt ws = wv at *
  cases g1 : decide (szV 1048576 wv < 0)
  rotate_left
  · obtain ⟨_, e1⟩ := szV_neg g1 (by omega)
    rw [e1] at z1
    simp [F4, rcall16, z1]
  obtain ⟨a1, e1⟩ := szV_pos g1 (by omega)
  rw [e1] at z1 g1
  have a3 : ws.length ≤ 1048576 := by omega
  obtain ⟨t, e, hi, hs⟩ := rebuildBoth K M sz p ws a3
  simp only [resT] at hi hs
  have tc := fun k => toCode k K M
  have t1 := fun k => toShardS k ws a3
  have x1 := fun k => eqShardS k ws (by omega)
  have k1 := tkG (enc := GShard.enc) (l := ws) rfl
  have hrl := rws_len (enc := GShard.enc) ws
  simp (maxSteps := 20000000) [F4, rcall16, z1, g1, rcall18, tc, rcall19, t1, rcall22, hs, rcall23, hi, rcall21, x1, k1, hrl]
theorem lawRebuild (avs : List AV) (h : PFitsAll [(true, [.int .i64, .int .i64]), (false, [.int .i64]), (false, [.sl 24 [.int .i64, .str]]), (false, [.int .i64])] avs) : ∃ n bs e, call code n 4 avs [] = some ⟨.bool true, bs, e⟩ := by
  obtain ⟨v0, r, rfl, h0, h⟩ := h.cons_inv
  obtain ⟨v1, r, rfl, h1, h⟩ := h.cons_inv
  obtain ⟨v2, r, rfl, h2, h⟩ := h.cons_inv
  obtain ⟨v3, r, rfl, h3, h⟩ := h.cons_inv
  obtain rfl := h.nil_inv
  obtain ⟨cs, rfl, f0⟩ := h0.agg_inv
  obtain ⟨_, _, rfl, c0, f1⟩ := f0.cons_inv
  obtain ⟨_, _, rfl, c1, f2⟩ := f1.cons_inv
  obtain rfl := f2.nil_inv
  obtain ⟨a, rfl, _⟩ := c0.i64_inv
  obtain ⟨b, rfl, _⟩ := c1.i64_inv
  obtain ⟨s, rfl, _⟩ := h1.one_inv.i64_inv
  obtain ⟨xs, rfl, hl, hr⟩ := h2.one_inv.sl_inv
  obtain ⟨p, rfl, _⟩ := h3.one_inv.i64_inv
  obtain ⟨ws, rfl, hz⟩ := fitShardS hr
  rw [rws_len] at hl
  exact ⟨_, _, _, law4 0 a b s p ws (by omega) hz⟩
end Go.Ae.C3
