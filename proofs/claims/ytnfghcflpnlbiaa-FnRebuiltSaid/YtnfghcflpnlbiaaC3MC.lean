/- BodyOf, the program's and the reference's. -/
import Derived.Test.YtnfghcflpnlbiaaC3MB
namespace Go.Ae.C3
set_option linter.unusedSimpArgs false
set_option linter.unusedVariables false
theorem join_nosep : ∀ xs : List (List UInt8), Lib.join xs [] = xs.flatten
  | [] => rfl
  | x :: r => by rw [Lib.join_cons]; simp [Lib.joinTail]
theorem strsOf_rows : ∀ ss : List ByteArray, strsOf (rws encT ss) = some ss
  | [] => rfl
  | s :: r => by
    have := strsOf_rows r
    rw [rws_cons]; simp only [encT, strsOf, this]
theorem joinD (k : Nat) (D : List (List UInt8)) (h1 : D.length ≤ 1000000) (h2 : D.flatten.length ≤ 1000000) : call code (k + 1) 74 [.rd true (rowsS D), .str ByteArray.empty] [] = some ⟨.str (B D.flatten), [], []⟩ := by
  refine nat74 k _ _ _ _ ?_
  have e1 : (D.map B).map (fun s => s.data.toList) = D := by
    rw [List.map_map]
    exact (List.map_congr_left fun s _ => by simp [B]).trans (List.map_id D)
  have e2 : Lib.join ((D.map B).map (fun s => s.data.toList)) ByteArray.empty.data.toList = D.flatten := by
    rw [e1]; exact join_nosep D
  simp only [natJoin, rowsS, strsOf_rows]
  rw [if_pos ⟨by simp; omega, by rw [e2]; omega⟩]
  unfold joinB
  rw [e2]; rfl
theorem pcs_all {an : List Nat} {h w n : Nat} {ls : List (List UInt8)} (hl : ∀ l ∈ ls, l.length = n) (hw : w ≤ ls.length) : ∀ l ∈ pcs an h w ls n, l.length = n := fun l hl' => by
  simp only [pcs, List.mem_map] at hl'
  obtain ⟨i, _, rfl⟩ := hl'
  exact acc_len hl w hw
theorem recD_all {a b q : Nat} {ws : List GShard} (H : HaveF a b q ws) (h : a ≤ ws.length) : ∀ l ∈ recD a b q ws, l.length = q := by
  obtain ⟨p, hp, _⟩ := invH_some H h
  simp only [recD, hp]
  exact pcs_all (bL_all H) (by rw [bL_len h]; exact Nat.le_refl _)
theorem flat_len {q : Nat} : ∀ {D : List (List UInt8)}, (∀ l ∈ D, l.length = q) → D.flatten.length = D.length * q
  | [], _ => by simp
  | x :: r, h => by
    have h1 := h x (by simp)
    have h2 := flat_len (D := r) fun l hl => h l (by simp [hl])
    rw [List.flatten_cons, List.length_append, h1, h2, List.length_cons, Nat.add_mul]; omega
def resT (t : ByteArray) (e : Int) : Res := ⟨.tup [.str t, .int .i64 e], [], []⟩
theorem haveB_inv {K M sz : Int} {ws : List GShard} (h : haveB K M sz ws = true) : ∃ a b n : Nat, K = a ∧ M = b ∧ sz = n ∧ n ≤ 64 ∧ HaveF a b (psz a n) ws := by
  simp only [haveB, Bool.and_eq_true] at h
  obtain ⟨⟨h1, h2⟩, h3⟩ := h
  obtain ⟨a, b, rfl, rfl, k1, k2, k3⟩ := codeB_nat h1
  simp [inB] at h2
  obtain ⟨n, rfl⟩ : ∃ n : Nat, sz = n := ⟨sz.toNat, by omega⟩
  exact ⟨a, b, n, rfl, rfl, rfl, by omega, haveF ⟨k1, k2⟩ k3 (by simpa using h3)⟩
/-- The body out of what is on hand. -/
def bodyD (a b n : Nat) (ws : List GShard) : List UInt8 := (recD a b (psz a n) ws).flatten.take n
theorem bodyGood (k : Nat) {a b n : Nat} {ws : List GShard} (hb : haveB a b n ws = true) (H : HaveF a b (psz a n) ws) (hn : n ≤ 64) (h : a ≤ ws.length) (hl : ws.length ≤ 1048576) :
    call code (k + 8) 20 [.agg [.int .i64 a, .int .i64 b], .int .i64 n, .rd true (rws GShard.enc ws)] [] = some (resT (B (bodyD a b n ws)) 0) := by
  refine call_run rfl fn20 rfl ?_
  have h1 := fun k => haveCode k a b n ws hl
  have hcd : hcode a b n ws = 0 := by
    unfold hcode; rw [hb, if_pos rfl, if_neg (by simp; omega)]
  have ha := H.a1
  have hp := psz_le (n := n) ha.1
  have r1 := fun k => recovered k H h (by omega)
  have hD := recD_len H h
  have hDa := recD_all H h
  have hfl := flat_len hDa
  rw [hD] at hfl
  have h4 : a * psz a n ≤ 4 * 64 := Nat.mul_le_mul ha.2 (by omega)
  have jj := fun k => joinD k (recD a b (psz a n) ws) (by omega) (by omega)
  have hrl : (rowsS (recD a b (psz a n) ws)).length = a := by rw [rowsS_len, hD]
  have tk : (rowsS (recD a b (psz a n) ws)).take a = rowsS (recD a b (psz a n) ws) := List.take_of_length_le (by omega)
  rw [hcd] at h1
  unfold bodyD
  have hle : n ≤ (recD a b (psz a n) ws).flatten.length := by rw [hfl, Nat.mul_comm]; exact hp.1
  have hcut : (B (recD a b (psz a n) ws).flatten).extract 0 n = B ((recD a b (psz a n) ws).flatten.take n) := by rw [B_cut]; simp
  have hBs : (B (recD a b (psz a n) ws).flatten).size = (recD a b (psz a n) ws).flatten.length := B_size _
  generalize (recD a b (psz a n) ws).flatten = T at *
  generalize rowsS (recD a b (psz a n) ws) = R at *
  have hle' : ((n : Nat) : Int) ≤ (T.length : Int) := by omega
  simp [F20, rcall73, h1, rcall75, r1, tk, hrl, rcall74, jj, hBs, hle, hle', hcut, resT]
theorem l04Body (k : Nat) {a b n : Nat} {ws : List GShard} (H : HaveF a b (psz a n) ws) (hn : n ≤ 64) (h : a ≤ ws.length) :
    call code (k + 8) 71 [.agg [.int .i64 a, .int .i64 b], .int .i64 n, .rd true (rws GShard.enc ws)] [] = some ⟨.str (B (bodyD a b n ws)), [], []⟩ := by
  refine call_run rfl fn71 rfl ?_
  have ha := H.a1
  have hp := psz_le (n := n) ha.1
  have r1 := fun k => l04Back k H h (by omega)
  have hD := recD_len H h
  have hDa := recD_all H h
  unfold bodyD
  generalize recD a b (psz a n) ws = D at *
  have hfl := flat_len hDa
  rw [hD] at hfl
  have h4 : a * psz a n ≤ 4 * 64 := Nat.mul_le_mul ha.2 (by omega)
  have hrl : (rowsS D).length = a := by rw [rowsS_len, hD]
  have tk : (rowsS D).take a = rowsS D := List.take_of_length_le (by omega)
  simp [F71, rcall124, r1, tk, hrl]
  refine RunC_loop (fun i : Nat => ⟨tm 28 [(1, .int .i64 n), (7, .sl 0 66048 0 [] 0 a), (8, .str (B (D.take i).flatten)), (9, .int .i64 i)], [(0, some ⟨0, 2, true, false, [[.int .i64 a, .int .i64 b]]⟩), (66048, some ⟨0, 1, false, true, rowsS D⟩)], []⟩)
    (fun i => i ≤ a) (fun i => a - i) 0 (Nat.zero_le _) (by simp; omega) (by simp [tm, B]; rfl) fun i hi _ => ?_
  by_cases hlt : i < a
  · have hs := idx_succ' hlt (by omega)
    have hg : ∀ h, (rowsS D)[i]'h = [.str (B (D[i]'(by omega)))] := fun h => rowsS_get (by omega) h
    have hnx : B (D.take i).flatten ++ B (D[i]'(by omega)) = B (D.take (i + 1)).flatten := by
      rw [B_app, List.take_succ_eq_append_getElem (by omega), List.flatten_append]; simp
    have hl1 := flat_len (D := D.take i) (q := psz a n) fun l hl => hDa l (List.mem_of_mem_take hl)
    have hl2 : (D.take i).length * psz a n ≤ 4 * 64 := Nat.mul_le_mul (by simp; omega) (by omega)
    have hl3 := hDa (D[i]'(by omega)) (List.getElem_mem _)
    have hsz : (B (D.take i).flatten).size + (B (D[i]'(by omega))).size ≤ 1000 := by rw [B_size, B_size]; omega
    generalize B (D.take i).flatten = X at *
    generalize hY : B (D.take (i + 1)).flatten = Y at *
    generalize B (D[i]'(by omega)) = Z at *
    simp [tm, hlt, hs, hrl, hg, IntKind.max, IntKind.signed, IntKind.bits]
    exact ⟨by omega, i + 1, by omega, by omega, by rw [hnx, hY], by simp⟩
  · have : i = a := by omega
    subst this
    have tD : D.take i = D := List.take_of_length_le (by omega)
    have hle : n ≤ D.flatten.length := by rw [hfl, Nat.mul_comm]; exact hp.1
    have hcut : (B D.flatten).extract 0 n = B (D.flatten.take n) := by rw [B_cut]; simp
    have hBs : (B D.flatten).size = D.flatten.length := B_size _
    rw [tD]
    generalize D.flatten = T at *
    have hle' : ((n : Nat) : Int) ≤ (T.length : Int) := by omega
    simp [tm, hrl, hBs, hle, hle', hcut]
theorem specGood (k : Nat) {a b n : Nat} {ws : List GShard} (hb : haveB a b n ws = true) (H : HaveF a b (psz a n) ws) (hn : n ≤ 64) (h : a ≤ ws.length) (hl : ws.length ≤ 1048576) :
    call code (k + 9) 17 [.agg [.int .i64 a, .int .i64 b], .int .i64 n, .rd true (rws GShard.enc ws)] [] = some (resT (B (bodyD a b n ws)) 0) := by
  refine call_run rfl fn17 rfl ?_
  have h1 := fun k => l04Have k a b n ws hl
  rw [hb] at h1
  have r1 := fun k => l04Body k H hn h
  have hlt : decide ((ws.length : Int) < (a : Int)) = false := by simp; omega
  have hlt' : ¬ ws.length < a := by omega
  simp [F17, rcall70, h1, hlt, hlt', rcall71, r1, resT]
/-- What both answer. -/
theorem bodyBoth (K M sz : Int) (ws : List GShard) (hl : ws.length ≤ 1048576) : ∃ t e, (∀ k, call code (k + 9) 20 [.agg [.int .i64 K, .int .i64 M], .int .i64 sz, .rd true (rws GShard.enc ws)] [] = some (resT t e)) ∧ ∀ k, call code (k + 9) 17 [.agg [.int .i64 K, .int .i64 M], .int .i64 sz, .rd true (rws GShard.enc ws)] [] = some (resT t e) := by
  have h1 := fun k => haveCode k K M sz ws hl
  have h2 := fun k => l04Have k K M sz ws hl
  cases hb : haveB K M sz ws
  · have hcd : hcode K M sz ws = 1 := by unfold hcode; rw [hb]; rfl
    rw [hcd] at h1
    rw [hb] at h2
    refine ⟨ByteArray.empty, 1, fun k => ?_, fun k => ?_⟩
    · refine call_run rfl fn20 rfl ?_
      simp [F20, rcall73, h1, resT]
    · refine call_run rfl fn17 rfl ?_
      simp [F17, rcall70, h2, resT]
  · cases hlt : decide ((ws.length : Int) < K)
    · obtain ⟨a, b, n, rfl, rfl, rfl, hn, H⟩ := haveB_inv hb
      simp at hlt
      exact ⟨_, _, fun k => bodyGood (k + 1) hb H hn hlt hl, fun k => specGood k hb H hn hlt hl⟩
    · have hcd : hcode K M sz ws = 8 := by unfold hcode; rw [hb, if_pos rfl, if_pos hlt]
      rw [hcd] at h1
      rw [hb] at h2
      refine ⟨ByteArray.empty, 8, fun k => ?_, fun k => ?_⟩
      · refine call_run rfl fn20 rfl ?_
        simp [F20, rcall73, h1, resT]
      · refine call_run rfl fn17 rfl ?_
        simp [F17, rcall70, h2, hlt, resT]
end Go.Ae.C3
namespace Go.Ae.C3
set_option linter.unusedSimpArgs false
set_option linter.unusedVariables false
theorem tkG {α : Type} {enc : α → List AV} {l : List α} {n : Nat} (h : l.length = n) : (rws enc l).take n = rws enc l := by subst h; exact rws_takeLen enc l
set_option maxRecDepth 100000 in
set_option maxHeartbeats 64000000 in
theorem law3 (n : Nat) (K M sz : Int) (ws : List GShard) (b1 : ws.length ≤ 140737488351232) (b2 : ∀ x ∈ ws, x.ok) :
    call code (n + 11) 3 [.agg [.int .i64 K, .int .i64 M], .int .i64 sz, .rd true (rws GShard.enc ws)] [] = some ⟨.bool true, [], []⟩ := by
  refine call_run rfl fn3 rfl ?_
  have z1 := fun k => szShardS k 1048576 ws (by omega) b1 b2
  generalize hw : ws.length + wsum GShard.wt ws = wv at *
  cases g1 : decide (szV 1048576 wv < 0)
  rotate_left
  · obtain ⟨_, e1⟩ := szV_neg g1 (by omega)
    rw [e1] at z1
    simp [F3, rcall16, z1]
  obtain ⟨a1, e1⟩ := szV_pos g1 (by omega)
  rw [e1] at z1 g1
  have a3 : ws.length ≤ 1048576 := by omega
  obtain ⟨t, e, hi, hs⟩ := bodyBoth K M sz ws a3
  simp only [resT] at hi hs
  have tc := fun k => toCode k K M
  have t1 := fun k => toShardS k ws a3
  have x1 := fun k => eqShardS k ws (by omega)
  have k1 := tkG (enc := GShard.enc) (l := ws) rfl
  have hrl := rws_len (enc := GShard.enc) ws
  simp (maxSteps := 20000000) [F3, rcall16, z1, g1, rcall18, tc, rcall19, t1, rcall17, hs, rcall20, hi, rcall21, x1, k1, hrl]
theorem lawBodyOf (avs : List AV) (h : PFitsAll [(true, [.int .i64, .int .i64]), (false, [.int .i64]), (false, [.sl 24 [.int .i64, .str]])] avs) : ∃ n bs e, call code n 3 avs [] = some ⟨.bool true, bs, e⟩ := by
  obtain ⟨v0, r, rfl, h0, h⟩ := h.cons_inv
  obtain ⟨v1, r, rfl, h1, h⟩ := h.cons_inv
  obtain ⟨v2, r, rfl, h2, h⟩ := h.cons_inv
  obtain rfl := h.nil_inv
  obtain ⟨cs, rfl, f0⟩ := h0.agg_inv
  obtain ⟨_, _, rfl, c0, f1⟩ := f0.cons_inv
  obtain ⟨_, _, rfl, c1, f2⟩ := f1.cons_inv
  obtain rfl := f2.nil_inv
  obtain ⟨a, rfl, _⟩ := c0.i64_inv
  obtain ⟨b, rfl, _⟩ := c1.i64_inv
  obtain ⟨s, rfl, _⟩ := h1.one_inv.i64_inv
  obtain ⟨xs, rfl, hl, hr⟩ := h2.one_inv.sl_inv
  obtain ⟨ws, rfl, hz⟩ := fitShardS hr
  rw [rws_len] at hl
  exact ⟨_, _, _, law3 0 a b s ws (by omega) hz⟩
end Go.Ae.C3
