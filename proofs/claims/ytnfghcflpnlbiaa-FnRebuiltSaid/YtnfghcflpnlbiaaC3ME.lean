/- OddShards, the program's and the reference's. -/
import Derived.Test.YtnfghcflpnlbiaaC3MD
namespace Go.Ae.C3
set_option linter.unusedSimpArgs false
set_option linter.unusedVariables false
def oddB (a b q : Nat) (ws : List GShard) (s : GShard) : Bool := !((B ((anewD a b q ws).getD s.Pos.toNat [])).toList == s.Bytes.toList)
def oddL (a b q : Nat) (ws : List GShard) (i : Nat) : List Int := ((ws.take i).filter (oddB a b q ws)).map GShard.Pos
theorem oddL_len (a b q : Nat) (ws : List GShard) (i : Nat) : (oddL a b q ws i).length ≤ i := by
  unfold oddL
  rw [List.length_map]
  exact Nat.le_trans (List.length_filter_le _ _) (by simp; omega)
theorem oddL_next {a b q : Nat} {ws : List GShard} {i : Nat} (h : i < ws.length) : oddL a b q ws (i + 1) = if oddB a b q ws ws[i] = true then oddL a b q ws i ++ [ws[i].Pos] else oddL a b q ws i := by
  unfold oddL
  rw [List.take_succ_eq_append_getElem h, List.filter_append]
  cases hc : oddB a b q ws ws[i] <;> simp [hc, List.filter]
def resZ (zs : List Int) (e : Int) : Res := ⟨.tup [.sl 0 0 0 [] 0 zs.length, .int .i64 e], [⟨0, 1, false, true, rws encI zs⟩], []⟩
set_option maxHeartbeats 16000000 in
theorem oddGood {a b n : Nat} {ws : List GShard} (hb : haveB a b n ws = true) (H : HaveF a b (psz a n) ws) (hn : n ≤ 64) (h : a ≤ ws.length) (hl : ws.length ≤ 1048576) :
    (∀ k, call code (k + 9) 25 [.agg [.int .i64 a, .int .i64 b], .int .i64 n, .rd true (rws GShard.enc ws)] [] = some (resZ (oddL a b (psz a n) ws ws.length) 0)) ∧
    ∀ k, call code (k + 9) 24 [.agg [.int .i64 a, .int .i64 b], .int .i64 n, .rd true (rws GShard.enc ws)] [] = some (resZ (oddL a b (psz a n) ws ws.length) 0) := by
  have ha := H.a1
  have hbb := H.b1
  have hpz := psz_le (n := n) ha.1
  have h1 := fun k => haveCode k a b n ws hl
  have hcd : hcode a b n ws = 0 := by
    unfold hcode; rw [hb, if_pos rfl, if_neg (by simp; omega)]
  rw [hcd] at h1
  have h2 := fun k => l04Have k a b n ws hl
  rw [hb] at h2
  have r1 := fun k => recovered k H h (by omega)
  have r2 := fun k => l04Anew k H h (by omega)
  have hD := recD_len H h
  have en := fun k => encoded k a b (recD a b (psz a n) ws) (psz a n) ha.1 (by omega) hD (recD_all H h) (by omega)
  have hA := anewD_len a b (psz a n) ws
  rw [show pcs (gN a b) (a + b) a (recD a b (psz a n) ws) (psz a n) = anewD a b (psz a n) ws from rfl] at en
  have hg : ∀ (i : Nat) (hi : i < ws.length), ∃ p : Nat, ws[i].Pos = (p : Int) ∧ p < a + b ∧ ∀ h, (rowsS (anewD a b (psz a n) ws))[p]'h = [.str (B ((anewD a b (psz a n) ws).getD ws[i].Pos.toNat []))] := fun i hi => by
    have := H.pos i hi
    refine ⟨ws[i].Pos.toNat, by omega, by omega, fun h => rowsS_at (by omega) h⟩
  have hrl : (rowsS (recD a b (psz a n) ws)).length = a := by rw [rowsS_len, hD]
  have tk : (rowsS (recD a b (psz a n) ws)).take a = rowsS (recD a b (psz a n) ws) := List.take_of_length_le (by omega)
  have hAl : (rowsS (anewD a b (psz a n) ws)).length = a + b := by rw [rowsS_len, hA]
  have hlt : decide ((ws.length : Int) < (a : Int)) = false := by simp; omega
  have hlt' : ¬ ws.length < a := by omega
  have hod : ∀ (i : Nat) (hi : i < ws.length), (!((B ((anewD a b (psz a n) ws).getD ws[i].Pos.toNat [])).toList == ws[i].Bytes.toList)) = oddB a b (psz a n) ws ws[i] := fun _ _ => rfl
  have hL := oddL_len a b (psz a n) ws
  have hN := fun i (hi : i < ws.length) => oddL_next (a := a) (b := b) (q := psz a n) hi
  have hL0 : oddL a b (psz a n) ws 0 = [] := rfl
  generalize oddL a b (psz a n) ws = L at *
  generalize oddB a b (psz a n) ws = ob at *
  generalize hAD : anewD a b (psz a n) ws = AD at *
  generalize rowsS AD = A at *
  generalize rowsS (recD a b (psz a n) ws) = R at *
  clear hA hAD
  generalize a + b = ab at *
  refine ⟨fun k => ?_, fun k => ?_⟩
  · refine call_run rfl fn25 rfl ?_
    simp [F25, rcall73, h1, rcall75, r1, tk, hrl, rcall80, en]
    refine RunC_loop (fun i : Nat => ⟨tm 46 [(9, .sl 0 263168 0 [] 0 ab), (10, .sl 0 327680 0 [] 0 (L i).length), (25, .rd true (rws GShard.enc ws)), (26, .int .i64 ws.length), (27, .int .i64 i)], [(0, some ⟨0, 2, true, false, [[.int .i64 a, .int .i64 b]]⟩), (256, some ⟨0, 1, false, true, []⟩), (262912, some ⟨0, 1, false, true, R⟩), (263168, some ⟨0, 1, false, true, A⟩), (327680, some ⟨0, 1, false, true, rws encI (L i)⟩)], []⟩)
      (fun i => i ≤ ws.length) (fun i => ws.length - i) 0 (Nat.zero_le _) (by simp; omega) (by simp [tm, hL0]) fun i hi _ => ?_
    by_cases hlt2 : i < ws.length
    · have hs := idx_succ' hlt2 (by omega)
      obtain ⟨p, hp, hpab, hgp⟩ := hg i hlt2
      have ho := hod i hlt2
      have hNi := hN i hlt2
      have hLi := hL i
      have hLl := rws_len (enc := encI) (L i)
      rw [hp] at hgp ho hNi
      generalize B (AD.getD (p : Int).toNat []) = T at *
      cases hc : ob ws[i]
      · rw [hc] at ho hNi
        simp at hNi
        simp [tm, hlt2, hs, GShard.enc, hp, hpab, hAl, hgp, ho]
        exact ⟨i + 1, by omega, by omega, ⟨by rw [hNi], by simp⟩, by rw [hNi]⟩
      · rw [hc] at ho hNi
        simp at hNi
        have happ : rws encI (L i) ++ [[.int .i64 (p : Int)]] = rws encI (L (i + 1)) := by rw [hNi, rws_app]; rfl
        have hLL : (L i).length + 1 = (L (i + 1)).length := by rw [hNi]; simp
        generalize hR' : rws encI (L (i + 1)) = R' at *
        generalize hQ' : (L (i + 1)).length = Q' at *
        generalize rws encI (L i) = Q at *
        generalize (L i).length = Ql at *
        simp [tm, hlt2, hs, GShard.enc, hp, hpab, hAl, hgp, ho, evalW, source, hLl, happ]
        exact ⟨⟨by omega, by omega⟩, i + 1, by omega, by omega, ⟨by rw [hQ', hLL], by simp⟩, by rw [hR']⟩
    · have : i = ws.length := by omega
      subst this
      have hLl := rws_len (enc := encI) (L ws.length)
      simp [tm, resZ, hLl]
  · refine call_run rfl fn24 rfl ?_
    simp [F24, rcall70, h2, hlt, hlt', rcall78, r2]
    refine RunC_loop (fun i : Nat => ⟨tm 56 [(2, .rd true (rws GShard.enc ws)), (8, .sl 0 328192 0 [] 0 ab), (9, .sl 0 393216 0 [] 0 (L i).length), (10, .int .i64 i)], [(0, some ⟨0, 2, true, false, [[.int .i64 a, .int .i64 b]]⟩), (256, some ⟨0, 1, false, true, []⟩), (328192, some ⟨0, 1, false, true, A⟩), (393216, some ⟨0, 1, false, true, rws encI (L i)⟩)], []⟩)
      (fun i => i ≤ ws.length) (fun i => ws.length - i) 0 (Nat.zero_le _) (by simp; omega) (by simp [tm, hL0]) fun i hi _ => ?_
    by_cases hlt2 : i < ws.length
    · have hs := idx_succ' hlt2 (by omega)
      obtain ⟨p, hp, hpab, hgp⟩ := hg i hlt2
      have ho := hod i hlt2
      have hNi := hN i hlt2
      have hLi := hL i
      have hLl := rws_len (enc := encI) (L i)
      rw [hp] at hgp ho hNi
      generalize B (AD.getD (p : Int).toNat []) = T at *
      cases hc : ob ws[i]
      · rw [hc] at ho hNi
        simp at hNi
        simp [tm, hlt2, hs, GShard.enc, hp, hpab, hAl, hgp, ho]
        exact ⟨i + 1, by omega, by omega, ⟨by rw [hNi], by simp⟩, by rw [hNi]⟩
      · rw [hc] at ho hNi
        simp at hNi
        have happ : rws encI (L i) ++ [[.int .i64 (p : Int)]] = rws encI (L (i + 1)) := by rw [hNi, rws_app]; rfl
        have hLL : (L i).length + 1 = (L (i + 1)).length := by rw [hNi]; simp
        generalize hR' : rws encI (L (i + 1)) = R' at *
        generalize hQ' : (L (i + 1)).length = Q' at *
        generalize rws encI (L i) = Q at *
        generalize (L i).length = Ql at *
        simp [tm, hlt2, hs, GShard.enc, hp, hpab, hAl, hgp, ho, evalW, source, hLl, happ]
        exact ⟨⟨by omega, by omega⟩, i + 1, by omega, by omega, ⟨by rw [hQ', hLL], by simp⟩, by rw [hR']⟩
    · have : i = ws.length := by omega
      subst this
      have hLl := rws_len (enc := encI) (L ws.length)
      simp [tm, resZ, hLl]
/-- What both answer. -/
theorem oddBoth (K M sz : Int) (ws : List GShard) (hl : ws.length ≤ 1048576) : ∃ zs e, (∀ k, call code (k + 9) 25 [.agg [.int .i64 K, .int .i64 M], .int .i64 sz, .rd true (rws GShard.enc ws)] [] = some (resZ zs e)) ∧ (∀ k, call code (k + 9) 24 [.agg [.int .i64 K, .int .i64 M], .int .i64 sz, .rd true (rws GShard.enc ws)] [] = some (resZ zs e)) ∧ zs.length ≤ 1048576 := by
  have h1 := fun k => haveCode k K M sz ws hl
  have h2 := fun k => l04Have k K M sz ws hl
  have hnil : rws encI [] = [] := rfl
  cases hb : haveB K M sz ws
  · have hcd : hcode K M sz ws = 1 := by unfold hcode; rw [hb]; rfl
    rw [hcd] at h1
    rw [hb] at h2
    refine ⟨[], 1, fun k => ?_, fun k => ?_, by simp⟩
    · refine call_run rfl fn25 rfl ?_
      simp [F25, rcall73, h1, resZ, hnil]
    · refine call_run rfl fn24 rfl ?_
      simp [F24, rcall70, h2, resZ, hnil]
  · cases hlt : decide ((ws.length : Int) < K)
    · obtain ⟨a, b, n, rfl, rfl, rfl, hn, H⟩ := haveB_inv hb
      simp at hlt
      obtain ⟨g1, g2⟩ := oddGood hb H hn hlt hl
      exact ⟨_, _, g1, g2, Nat.le_trans (oddL_len _ _ _ _ _) hl⟩
    · have hcd : hcode K M sz ws = 8 := by unfold hcode; rw [hb, if_pos rfl, if_pos hlt]
      rw [hcd] at h1
      rw [hb] at h2
      refine ⟨[], 8, fun k => ?_, fun k => ?_, by simp⟩
      · refine call_run rfl fn25 rfl ?_
        simp [F25, rcall73, h1, resZ, hnil]
      · refine call_run rfl fn24 rfl ?_
        simp [F24, rcall70, h2, hlt, resZ, hnil]
end Go.Ae.C3
