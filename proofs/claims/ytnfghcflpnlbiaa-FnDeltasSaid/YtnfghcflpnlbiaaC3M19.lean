/- What a change touches of a striped object, place by place. -/
import Derived.Test.YtnfghcflpnlbiaaC3M18
namespace Go.Ae.C3
set_option linter.unusedSimpArgs false
set_option linter.unusedVariables false
theorem qN_eq (a u s c : Nat) : qN a u s c = s * (a * u) + c * u := by
  unfold qN; rw [Nat.add_mul, Nat.mul_assoc]
/-- A place of the stripe s: its column and its place in the row. -/
theorem place {a u s p : Nat} (ha : 1 ≤ a) (hu : 1 ≤ u) (h1 : s * (a * u) ≤ p) (h2 : p < (s + 1) * (a * u)) : p = qN a u s (colN a u p) + p % u ∧ offN a u p = s * u + p % u ∧ (∀ c, c < colN a u p → qN a u s c + u ≤ p) ∧ ∀ c, colN a u p < c → p < qN a u s c := by
  have hS := mul_pos' ha hu
  have hd : p / (a * u) = s := Nat.div_eq_of_lt_le (by omega) (by omega)
  have hm : p % (a * u) = p - s * (a * u) := by
    have := Nat.div_add_mod p (a * u)
    rw [hd, Nat.mul_comm] at this
    omega
  have hmm : p % (a * u) % u = p % u := Nat.mod_mod_of_dvd _ (Nat.dvd_mul_left u a)
  have hdm := Nat.div_add_mod (p % (a * u)) u
  rw [hmm] at hdm
  have hlt : p % u < u := Nat.mod_lt _ (by omega)
  have hc : colN a u p = p % (a * u) / u := rfl
  rw [← hc, Nat.mul_comm] at hdm
  refine ⟨?_, ?_, fun c hcl => ?_, fun c hcl => ?_⟩
  · rw [qN_eq]; omega
  · unfold offN; rw [hd]
  · rw [qN_eq]
    have := Nat.mul_le_mul_right u (show c + 1 ≤ colN a u p by omega)
    rw [Nat.add_mul, Nat.one_mul] at this
    omega
  · rw [qN_eq]
    have := Nat.mul_le_mul_right u (show colN a u p + 1 ≤ c by omega)
    rw [Nat.add_mul, Nat.one_mul] at this
    omega
def rowP (a u : Nat) (ws : List ByteArray) (t : List UInt8) (f s p c : Nat) : List UInt8 := (List.range u).map fun i => if touN u f (p - f) (qN a u s c) i then valN ws t f u s c (qN a u s c) i else 0
def chR (a u : Nat) (ws : List ByteArray) (t : List UInt8) (f s p : Nat) : List (List UInt8) := (List.range a).map (rowP a u ws t f s p)
def fstP (a u f s p c : Nat) : Int := if loN u f (qN a u s c) < hiN u f (p - f) (qN a u s c) then ((s * u + loN u f (qN a u s c) : Nat) : Int) else -1
def lstP (a u f s p c : Nat) : Int := if loN u f (qN a u s c) < hiN u f (p - f) (qN a u s c) then ((s * u + hiN u f (p - f) (qN a u s c) - 1 : Nat) : Int) else 0
def chF (a u f s p : Nat) : List Int := (List.range a).map (fstP a u f s p)
def chL (a u f s p : Nat) : List Int := (List.range a).map (lstP a u f s p)
theorem hi_out {u f p q : Nat} (hf : f ≤ p) (h : p < q ∨ q + u ≤ p) : hiN u f (p + 1 - f) q = hiN u f (p - f) q := by
  unfold hiN; omega
theorem hi_in {u f p q i : Nat} (hf : f ≤ p) (h : p = q + i) (hi : i < u) : hiN u f (p - f) q = i ∧ hiN u f (p + 1 - f) q = i + 1 ∧ loN u f q ≤ i := by
  unfold hiN loN; omega
theorem set_map {β : Type} {a c0 : Nat} {g g' : Nat → β} {x : β} (hg : ∀ c, c < a → c ≠ c0 → g' c = g c) (h0 : g' c0 = x) : (List.range a).map g' = ((List.range a).map g).set c0 x := by
  apply List.ext_getElem
  · simp
  · intro c h1 h2
    have hc : c < a := by simpa using h1
    rw [List.getElem_set]
    simp only [List.getElem_map, List.getElem_range]
    split
    · rename_i h; rw [← h, h0]
    · rename_i h; exact hg c hc fun he => h he.symm
section
variable {a u s p f : Nat} {ws : List ByteArray} {t : List UInt8}
theorem chR_step (ha : 1 ≤ a) (hu : 1 ≤ u) (h1 : s * (a * u) ≤ p) (h2 : p < (s + 1) * (a * u)) (hf : f ≤ p) :
    chR a u ws t f s (p + 1) = (chR a u ws t f s p).set (colN a u p) ((rowP a u ws t f s p (colN a u p)).set (p % u) (valN ws t f u s (colN a u p) (qN a u s (colN a u p)) (p % u))) := by
  obtain ⟨e1, e2, e3, e4⟩ := place ha hu h1 h2
  have hlt : p % u < u := Nat.mod_lt _ (by omega)
  refine set_map (fun c hc hne => ?_) ?_
  · unfold rowP touN
    rw [hi_out hf]
    rcases Nat.lt_or_gt_of_ne hne with h | h
    · exact .inr (e3 c h)
    · exact .inl (e4 c h)
  · obtain ⟨i1, i2, i3⟩ := hi_in hf e1 hlt
    refine set_map (g := fun i => if touN u f (p - f) (qN a u s (colN a u p)) i then valN ws t f u s (colN a u p) (qN a u s (colN a u p)) i else 0) (fun i hi hne => ?_) ?_
    · unfold touN
      rw [i1, i2]
      have : decide (i < p % u + 1) = decide (i < p % u) := by apply decide_eq_decide.2; omega
      rw [this]
    · unfold touN
      rw [i2, if_pos (by simp; exact i3)]
theorem chF_step (ha : 1 ≤ a) (hu : 1 ≤ u) (h1 : s * (a * u) ≤ p) (h2 : p < (s + 1) * (a * u)) (hf : f ≤ p) :
    chF a u f s (p + 1) = if fstP a u f s p (colN a u p) < 0 then (chF a u f s p).set (colN a u p) ((s * u + p % u : Nat) : Int) else chF a u f s p := by
  obtain ⟨e1, e2, e3, e4⟩ := place ha hu h1 h2
  have hlt : p % u < u := Nat.mod_lt _ (by omega)
  obtain ⟨i1, i2, i3⟩ := hi_in hf e1 hlt
  have hout : ∀ c, c < a → c ≠ colN a u p → fstP a u f s (p + 1) c = fstP a u f s p c := fun c hc hne => by
    unfold fstP
    rw [hi_out hf]
    rcases Nat.lt_or_gt_of_ne hne with h | h
    · exact .inr (e3 c h)
    · exact .inl (e4 c h)
  split
  · rename_i h
    refine set_map hout ?_
    unfold fstP at h ⊢
    rw [i1] at h
    rw [i2, if_pos (by omega)]
    have hl : loN u f (qN a u s (colN a u p)) = p % u := by
      unfold loN
      have hq := e1
      rcases Nat.lt_or_ge (loN u f (qN a u s (colN a u p))) (p % u) with hh | hh
      · rw [if_pos hh] at h; omega
      · unfold loN at hh i3; omega
    rw [hl]
  · rename_i h
    refine List.map_congr_left fun c hc => ?_
    have hca := List.mem_range.1 hc
    by_cases hne : c = colN a u p
    · subst hne
      unfold fstP at h ⊢
      rw [i1] at h ⊢
      rw [i2]
      have hh : loN u f (qN a u s (colN a u p)) < p % u := by
        rcases Nat.lt_or_ge (loN u f (qN a u s (colN a u p))) (p % u) with hh | hh
        · exact hh
        · rw [if_neg (by omega)] at h; exact absurd (by decide) h
      rw [if_pos hh, if_pos (by omega)]
    · exact hout c hca hne
theorem chL_step (ha : 1 ≤ a) (hu : 1 ≤ u) (h1 : s * (a * u) ≤ p) (h2 : p < (s + 1) * (a * u)) (hf : f ≤ p) :
    chL a u f s (p + 1) = (chL a u f s p).set (colN a u p) ((s * u + p % u : Nat) : Int) := by
  obtain ⟨e1, e2, e3, e4⟩ := place ha hu h1 h2
  have hlt : p % u < u := Nat.mod_lt _ (by omega)
  obtain ⟨i1, i2, i3⟩ := hi_in hf e1 hlt
  refine set_map (fun c hc hne => ?_) ?_
  · unfold lstP
    rw [hi_out hf]
    rcases Nat.lt_or_gt_of_ne hne with h | h
    · exact .inr (e3 c h)
    · exact .inl (e4 c h)
  · unfold lstP
    rw [i2, if_pos (by omega)]
    congr 1
end
end Go.Ae.C3
namespace Go.Ae.C3
set_option linter.unusedSimpArgs false
set_option linter.unusedVariables false
def p0N (a u s f : Nat) : Nat := max f (s * (a * u))
def p1N (a u s f m : Nat) : Nat := min (f + m) ((s + 1) * (a * u))
theorem hi_start {a u s f c : Nat} : ¬ loN u f (qN a u s c) < hiN u f (p0N a u s f - f) (qN a u s c) := by
  have := qN_eq a u s c
  unfold loN hiN p0N
  omega
theorem chR_start (a u ws t f s) : chR a u ws t f s (p0N a u s f) = List.replicate a (List.replicate u 0) := by
  apply List.ext_getElem
  · simp [chR]
  · intro c h1 h2
    simp only [chR, List.getElem_map, List.getElem_range, List.getElem_replicate]
    apply List.ext_getElem
    · simp [rowP]
    · intro i h3 h4
      simp only [rowP, List.getElem_map, List.getElem_range, List.getElem_replicate]
      have := hi_start (a := a) (u := u) (s := s) (f := f) (c := c)
      rw [if_neg]
      unfold touN
      simp; omega
theorem chF_start (a u f s) : chF a u f s (p0N a u s f) = List.replicate a (-1) := by
  apply List.ext_getElem
  · simp [chF]
  · intro c h1 h2
    simp only [chF, List.getElem_map, List.getElem_range, List.getElem_replicate]
    unfold fstP; rw [if_neg hi_start]
theorem chL_start (a u f s) : chL a u f s (p0N a u s f) = List.replicate a 0 := by
  apply List.ext_getElem
  · simp [chL]
  · intro c h1 h2
    simp only [chL, List.getElem_map, List.getElem_range, List.getElem_replicate]
    unfold lstP; rw [if_neg hi_start]
theorem repI (k a : Nat) (ha : 1 ≤ a ∧ a ≤ 4) : call code (k + 1) 145 [.rd true [[.int .i64 (-1)]], .int .i64 a] [] = some ⟨.sl 0 0 0 [] 0 a, [⟨0, 1, false, true, List.replicate a [.int .i64 (-1)]⟩], []⟩ := by
  refine nat145 _ _ _ _ _ ?_
  have c : 1 ≤ (a : Int) ∧ (a : Int) ≤ 4 := by omega
  simp [C0.natRepI]
  exact c
set_option maxRecDepth 100000 in
set_option maxHeartbeats 64000000 in
theorem changeOf (k : Nat) {a b u n s f : Nat} {ws : List ByteArray} {t : List UInt8} (h : Wide a b u n ws) (hfm : f + t.length ≤ n) (hs : s * (a * u) ≤ 300) (hp1 : f < (s + 1) * (a * u)) (hp2 : s * (a * u) < f + t.length) : call code (k + 4) 117 [wAV a b u n (rws encT ws), .int .i64 s, .int .i64 f, .str (B t)] [] = some ⟨.agg [.sl 0 0 0 [] 0 a, .sl 0 1 0 [] 0 a, .sl 0 2 0 [] 0 a], [⟨0, 1, false, false, rws encO (chR a u ws t f s (p1N a u s f t.length))⟩, ⟨0, 1, false, true, rws encI (chF a u f s (p1N a u s f t.length))⟩, ⟨0, 1, false, true, rws encI (chL a u f s (p1N a u s f t.length))⟩], []⟩ := by
  refine call_run rfl fn117 rfl ?_
  have ha1 := h.a1
  have ha4 := h.a4
  have hu1 := h.u1
  have hu8 := h.u8
  have h256 := h.n256
  have rp := fun k => repI k a ⟨ha1, ha4⟩
  generalize hRP : List.replicate a [AV.int .i64 (-1)] = RP at *
  simp [F117, rcall145, rp, storeM, evalW, moveCells, moveCell, fillOk, AV.own0, AV.ownF, source, zeroRow]
  refine ⟨⟨by omega, by omega⟩, ?_⟩
  refine RunC_loop (fun j : Nat => ⟨tm 107 [(1, .int .i64 s), (2, .int .i64 f), (3, .str (B t)), (4, .ptr 0 0 0 [] 0 0), (8, .ptr 0 256 0 [] 0 0), (9, .ptr 0 68096 0 [] 0 0), (27, .int .i64 a), (28, .int .i64 j)], [(0, some ⟨0, 5, true, false, [[.int .i64 a, .int .i64 b, .int .i64 u, .int .i64 n, .rd true (rws encT ws)]]⟩), (256, some ⟨0, 3, true, false, [[.sl 0 257 0 [] 0 0, .sl 0 258 0 [] 0 0, .sl 0 259 0 [] 0 0]]⟩), (257, some ⟨0, 1, false, false, []⟩), (258, some ⟨0, 1, false, true, []⟩), (259, some ⟨0, 1, false, true, []⟩), (65536, some ⟨0, 1, false, true, [[.int .i64 (-1)]]⟩), (66560, some ⟨0, 1, false, true, RP⟩), (67584, some ⟨0, 1, false, true, List.replicate a [.int .i64 0]⟩), (68096, some ⟨0, 3, true, false, [[.sl 0 68353 0 [] 0 j, .sl 0 66560 0 [] 0 a, .sl 0 67584 0 [] 0 a]]⟩), (68097, some ⟨0, 1, false, false, []⟩), (68098, some ⟨0, 1, false, true, []⟩), (68099, some ⟨0, 1, false, true, []⟩), (68353, some ⟨0, 1, false, false, rws encO (List.replicate j (List.replicate u 0))⟩)], []⟩)
    (fun j => j ≤ a) (fun j => a - j) 0 (Nat.zero_le _) (by simp; omega) (by simp [tm, rws]) fun j hj _ => ?_
  have hRl := rws_len (enc := encO) (List.replicate j (List.replicate u (0 : UInt8)))
  rw [List.length_replicate] at hRl
  by_cases hja : j < a
  · have hsj := idx_succ' hja (by omega)
    have happ : rws encO (List.replicate j (List.replicate u (0 : UInt8))) ++ [[.own true (List.replicate u [.int .u8 0])]] = rws encO (List.replicate (j + 1) (List.replicate u (0 : UInt8))) := by
      rw [List.replicate_succ', rws_app]
      congr 1
      simp [rws, encO, encB]
    generalize hR' : rws encO (List.replicate (j + 1) (List.replicate u (0 : UInt8))) = R' at *
    generalize rws encO (List.replicate j (List.replicate u (0 : UInt8))) = R at *
    simp [tm, hja, hsj, storeM, evalW, moveCells, moveCell, fillOk, AV.own0, AV.ownF, source, zeroRow, appM, appM2, hRl, happ]
    exact ⟨by omega, ⟨by omega, by omega⟩, j + 1, by omega, by omega, by omega, rfl, hR'.symm⟩
  · have : j = a := by omega
    subst this
    have st := fun k => stripe k j b u n (rws encT ws) ⟨ha1, ha4⟩ ⟨hu1, hu8⟩
    have hS32 := mul_le j u ha4 hu8
    have hS1 := mul_pos' ha1 hu1
    have hR0 := chR_start j u ws t f s
    have hF0 := chF_start j u f s
    have hL0 := chL_start j u f s
    have hRPe : RP = rws encI (chF j u f s (p0N j u s f)) := by rw [hF0, ← hRP]; simp [rws, encI]
    have hLe : List.replicate j [AV.int .i64 0] = rws encI (chL j u f s (p0N j u s f)) := by rw [hL0]; simp [rws, encI]
    rw [← hR0, hRPe, hLe]
    have hs1 : (s + 1) * (j * u) = s * (j * u) + j * u := by rw [Nat.add_mul, Nat.one_mul]
    have w1 : IntKind.wrap .i64 ((s : Int) * ((j * u : Nat) : Int)) = ((s * (j * u) : Nat) : Int) := by rw [← Int.natCast_mul, wrap64 ⟨by omega, by omega⟩]
    have w2 : IntKind.wrap .i64 ((s : Int) + 1) = ((s + 1 : Nat) : Int) := by
      have : s ≤ s * (j * u) := Nat.le_mul_of_pos_right s hS1
      rw [wrap64 ⟨by omega, by omega⟩]; omega
    have w3 : IntKind.wrap .i64 (((s + 1 : Nat) : Int) * ((j * u : Nat) : Int)) = (((s + 1) * (j * u) : Nat) : Int) := by rw [← Int.natCast_mul, wrap64 ⟨by omega, by omega⟩]
    have w4 : IntKind.wrap .i64 ((f : Int) + (t.length : Int)) = ((f + t.length : Nat) : Int) := by rw [wrap64 ⟨by omega, by omega⟩]; omega
    have x1 : (if ((f : Nat) : Int) < ((s * (j * u) : Nat) : Int) then ((s * (j * u) : Nat) : Int) else (f : Int)) = ((p0N j u s f : Nat) : Int) := by unfold p0N; split <;> omega
    have x2 : (if (((s + 1) * (j * u) : Nat) : Int) < ((f + t.length : Nat) : Int) then (((s + 1) * (j * u) : Nat) : Int) else ((f + t.length : Nat) : Int)) = ((p1N j u s f t.length : Nat) : Int) := by unfold p1N; split <;> omega
    have y0 : f ≤ p0N j u s f ∧ s * (j * u) ≤ p0N j u s f ∧ p0N j u s f ≤ p1N j u s f t.length := by unfold p0N p1N; omega
    have y1 : p1N j u s f t.length ≤ f + t.length ∧ p1N j u s f t.length ≤ (s + 1) * (j * u) := by unfold p1N; omega
    unfold wAV at st
    have x1' : (if f < s * (j * u) then ((s * (j * u) : Nat) : Int) else (f : Int)) = ((p0N j u s f : Nat) : Int) := by unfold p0N; split <;> omega
    have x2' : (if (s + 1) * (j * u) < f + t.length then (((s + 1) * (j * u) : Nat) : Int) else ((f + t.length : Nat) : Int)) = ((p1N j u s f t.length : Nat) : Int) := by unfold p1N; split <;> omega
    have hstep := fun p (g1 : s * (j * u) ≤ p) (g2 : p < (s + 1) * (j * u)) (g3 : f ≤ p) => (⟨chR_step (ws := ws) (t := t) ha1 hu1 g1 g2 g3, chF_step ha1 hu1 g1 g2 g3, chL_step ha1 hu1 g1 g2 g3, place ha1 hu1 g1 g2⟩ : _ ∧ _ ∧ _ ∧ _)
    have hsz := h.all
    have hol := fun p (hp : p < n) => offN_lt (a := j) (u := u) (n := n) ha1 hu1 hp
    have hcl := fun p => colN_lt (a := j) (u := u) ha1 hu1 p
    have cl := fun k p (hp : p ≤ 1000) => cell k j b u n p (rws encT ws) ⟨ha1, ha4⟩ ⟨hu1, hu8⟩ hp
    have hwl : j ≤ ws.length := by have := h.len; omega
    unfold wAV at cl
    generalize hSS : j * u = S at *
    generalize (s + 1) * S = s1S at *
    generalize s * S = sS at *
    generalize s + 1 = s1 at *
    generalize hfm0 : f + t.length = fm at *
    generalize p0N j u s f = p0 at *
    generalize p1N j u s f t.length = p1 at *
    simp [tm, rcall115, st, w1, w2, w3, w4, x1, x1', x2, x2']
    refine RunC_loop (fun p : Nat => ⟨tm 107 [(2, .int .i64 f), (3, .str (B t)), (4, .ptr 0 0 0 [] 0 0), (8, .ptr 0 256 0 [] 0 0), (9, .ptr 0 68096 0 [] 0 0), (11, .int .i64 p1), (12, .int .i64 p)], [(0, some ⟨0, 5, true, false, [[.int .i64 j, .int .i64 b, .int .i64 u, .int .i64 n, .rd true (rws encT ws)]]⟩), (256, some ⟨0, 3, true, false, [[.sl 0 257 0 [] 0 0, .sl 0 258 0 [] 0 0, .sl 0 259 0 [] 0 0]]⟩), (257, some ⟨0, 1, false, false, []⟩), (258, some ⟨0, 1, false, true, []⟩), (259, some ⟨0, 1, false, true, []⟩), (65536, some ⟨0, 1, false, true, [[.int .i64 (-1)]]⟩), (66560, some ⟨0, 1, false, true, rws encI (chF j u f s p)⟩), (67584, some ⟨0, 1, false, true, rws encI (chL j u f s p)⟩), (68096, some ⟨0, 3, true, false, [[.sl 0 68353 0 [] 0 j, .sl 0 66560 0 [] 0 j, .sl 0 67584 0 [] 0 j]]⟩), (68097, some ⟨0, 1, false, false, []⟩), (68098, some ⟨0, 1, false, true, []⟩), (68099, some ⟨0, 1, false, true, []⟩), (68353, some ⟨0, 1, false, false, rws encO (chR j u ws t f s p)⟩)], []⟩)
      (fun p => p0 ≤ p ∧ p ≤ p1) (fun p => p1 - p) p0 ⟨Nat.le_refl _, y0.2.2⟩ (by simp; omega) (by simp [tm]) fun p hp _ => ?_
    have hFl : (rws encI (chF j u f s p)).length = j := by rw [rws_len]; simp [chF]
    have hLl : (rws encI (chL j u f s p)).length = j := by rw [rws_len]; simp [chL]
    have hRl : (rws encO (chR j u ws t f s p)).length = j := by rw [rws_len]; simp [chR]
    by_cases hlt : p < p1
    · have hs := idx_succ' hlt (by omega)
      obtain ⟨r1, r2, r3, pq, po, _, _⟩ := hstep p (by omega) (by omega) (by omega)
      have hc0 := hcl p
      have ho := hol p (by omega)
      have cl' := fun k => cl k p (by omega)
      have hF : ∀ hh : colN j u p < (rws encI (chF j u f s p)).length, (rws encI (chF j u f s p))[colN j u p]'hh = [.int .i64 (fstP j u f s p (colN j u p))] := fun hh => by rw [rws_get]; simp [chF, encI]
      have hLg : ∀ hh : colN j u p < (rws encI (chL j u f s p)).length, (rws encI (chL j u f s p))[colN j u p]'hh = [.int .i64 (lstP j u f s p (colN j u p))] := fun hh => by rw [rws_get]; simp [chL, encI]
      have hRc : cellAt (rws encO (chR j u ws t f s p)) (colN j u p) 0 = some (.own true (rws encB (rowP j u ws t f s p (colN j u p)))) := by
        rw [encO_cell (by simp [chR]; exact hc0)]; simp [chR]
      have hRg : ∀ hh : colN j u p < (rws encO (chR j u ws t f s p)).length, (rws encO (chR j u ws t f s p))[colN j u p]'hh = [.own true (rws encB (rowP j u ws t f s p (colN j u p)))] := fun hh => by rw [rws_get]; simp [chR, encO]
      have hcw : colN j u p < ws.length := by omega
      have hwsz : ws[colN j u p].size = tallN j u n := hsz _ (List.getElem_mem hcw)
      have ho' : offN j u p < ws[colN j u p].size := by omega
      have hlp : p % u < u := Nat.mod_lt _ (by omega)
      have hpf : p - f < t.length := by omega
      have w5 : IntKind.wrap .i64 ((p : Int) - (f : Int)) = ((p - f : Nat) : Int) := by rw [wrap64 ⟨by omega, by omega⟩]; omega
      obtain ⟨m1, m2⟩ := wmod p u
      have hu0 : ¬ u = 0 := by omega
      have b1 : ∀ hh : p - f < (B t).size, (B t)[p - f]'hh = t[p - f] := fun hh => rfl
      have hv : valN ws t f u s (colN j u p) (qN j u s (colN j u p)) (p % u) = t[p - f] ^^^ ws[colN j u p].data.toList[offN j u p]'(by rw [Array.length_toList]; exact ho') := by
        unfold valN
        rw [← pq, ← po, List.getD_eq_getElem?_getD, List.getElem?_eq_getElem hpf, List.getD_eq_getElem?_getD (l := ws), List.getElem?_eq_getElem hcw, List.getD_eq_getElem?_getD]
        simp only [Option.getD_some]
        rw [List.getElem?_eq_getElem (by rw [Array.length_toList]; exact ho')]
        rfl
      have hx : gXor .u8 (t[p - f].toNat) (((ws[colN j u p]'hcw)[offN j u p]'ho').toNat) = ((valN ws t f u s (colN j u p) (qN j u s (colN j u p)) (p % u)).toNat : Int) := by
        rw [hv]
        exact gXor8 (t[p - f]) (ws[colN j u p].data.toList[offN j u p]'(by rw [Array.length_toList]; exact ho'))
      rw [← po] at r2 r3
      have hrl := rws_len (enc := encB) (rowP j u ws t f s p (colN j u p))
      have hrl0 : (rowP j u ws t f s p (colN j u p)).length = u := by simp [rowP]
      rw [hrl0] at hrl
      have hsb := rws_set (enc := encB) (rowP j u ws t f s p (colN j u p)) (p % u) (valN ws t f u s (colN j u p) (qN j u s (colN j u p)) (p % u))
      have hsc := encO_set (D := chR j u ws t f s p) (c := colN j u p) ((rowP j u ws t f s p (colN j u p)).set (p % u) (valN ws t f u s (colN j u p) (qN j u s (colN j u p)) (p % u)))
      rw [← r1, ← hsb] at hsc
      have hgl : ∀ (y : Nat) (hh : y < (rws encB (rowP j u ws t f s p (colN j u p))).length), ((rws encB (rowP j u ws t f s p (colN j u p)))[y]'hh).length = 1 := fun y hh => by rw [rws_get]; rfl
      have hgt : ∀ (y : Nat) (hh : y < (rws encB (rowP j u ws t f s p (colN j u p))).length), ((rws encB (rowP j u ws t f s p (colN j u p)))[y]'hh).tail = [] := fun y hh => by rw [rws_get]; rfl
      have hLs := rws_set (enc := encI) (chL j u f s p) (colN j u p) ((offN j u p : Nat) : Int)
      rw [← r3] at hLs
      have hFs := rws_set (enc := encI) (chF j u f s p) (colN j u p) ((offN j u p : Nat) : Int)
      clear hv hwsz hsb r1 r3 cl hol hcl hstep hsz
      simp only [encB, encI] at hsc hLs hFs
      generalize hFv : fstP j u f s p (colN j u p) = FV0 at *
      generalize valN ws t f u s (colN j u p) (qN j u s (colN j u p)) (p % u) = X at *
      generalize rowP j u ws t f s p (colN j u p) = rr at *
      generalize hR' : rws encO (chR j u ws t f s (p + 1)) = R' at *
      generalize rws encO (chR j u ws t f s p) = R at *
      unfold encI at *
      generalize hL' : rws (fun x : Int => [AV.int .i64 x]) (chL j u f s (p + 1)) = L' at *
      generalize rws (fun x : Int => [AV.int .i64 x]) (chL j u f s p) = L at *
      generalize hFF : rws (fun x : Int => [AV.int .i64 x]) (chF j u f s p) = FL at *
      unfold encB at *
      generalize (rws (fun b : UInt8 => [AV.int .u8 b.toNat]) rr) = RR at *
      generalize colN j u p = c0 at *
      generalize offN j u p = o0 at *
      generalize p % u = i0 at *
      generalize hpf0 : p - f = pf at *
      by_cases hF0 : FV0 < 0
      · rw [if_pos hF0] at r2
        simp [tm, hlt, hs, rcall101, cl', storeM, moveCells, moveCell, evalW, hRl, hFl, hLl, hc0, hRg, hRc, hF, w5, m1, m2, hu0, hpf, b1, hcw, ho', hx, hrl, hlp, hgl, hgt, hsc, hLs, hFs, hF0, encT, hLg]
        exact ⟨p + 1, ⟨by omega, by omega⟩, by omega, by simp, by rw [r2], hL'.symm, (congrArg (fun z => setCell R c0 0 (.own true (RR.set i0 [AV.int .u8 z]))) hx).trans (hsc.trans hR'.symm)⟩
      · rw [if_neg hF0] at r2
        simp [tm, hlt, hs, rcall101, cl', storeM, moveCells, moveCell, evalW, hRl, hFl, hLl, hc0, hRg, hRc, hF, w5, m1, m2, hu0, hpf, b1, hcw, ho', hx, hrl, hlp, hgl, hgt, hsc, hLs, hFs, hF0, encT, hLg]
        exact ⟨p + 1, ⟨by omega, by omega⟩, by omega, by simp, by rw [r2]; exact hFF.symm, hL'.symm, (congrArg (fun z => setCell R c0 0 (.own true (RR.set i0 [AV.int .u8 z]))) hx).trans (hsc.trans hR'.symm)⟩
    · have : p = p1 := by omega
      subst this
      simp [tm, storeM, moveCells, moveCell, fillOk, AV.own0, AV.ownF, evalW, hRl, hFl, hLl]
end Go.Ae.C3
namespace Go.Ae.C3
set_option linter.unusedSimpArgs false
set_option linter.unusedVariables false
theorem q_end {a u s c : Nat} (hc : c < a) : qN a u s c + u ≤ (s + 1) * (a * u) := by
  rw [qN_eq, Nat.add_mul, Nat.one_mul]
  have := Nat.mul_le_mul_right u (show c + 1 ≤ a by omega)
  rw [Nat.add_mul, Nat.one_mul] at this
  omega
theorem hi_end {a u s f m c : Nat} (hc : c < a) (hp1 : f < (s + 1) * (a * u)) : hiN u f (p1N a u s f m - f) (qN a u s c) = hiN u f m (qN a u s c) := by
  have := q_end (u := u) (s := s) hc
  unfold hiN p1N
  generalize (s + 1) * (a * u) = e at *
  omega
theorem chR_end {a u s f : Nat} {ws : List ByteArray} {t : List UInt8} (hp1 : f < (s + 1) * (a * u)) : chR a u ws t f s (p1N a u s f t.length) = rwL a u ws t f s a := by
  unfold chR rwL
  refine List.map_congr_left fun c hc => ?_
  have hca := List.mem_range.1 hc
  unfold rowP rowI touN
  rw [hi_end hca hp1]
theorem filter_range {lo hi : Nat} : ∀ n, (List.range n).filter (fun j => decide (lo ≤ j) && decide (j < hi)) = (List.range (min hi n - lo)).map (lo + ·)
  | 0 => by simp
  | n + 1 => by
    rw [List.range_succ, List.filter_append, filter_range n]
    by_cases h : lo ≤ n ∧ n < hi
    · have e1 : min hi (n + 1) - lo = (min hi n - lo) + 1 := by omega
      have e2 : lo + (min hi n - lo) = n := by omega
      rw [e1, List.range_succ, List.map_append]
      simp [h.1, h.2, e2]
    · have e1 : min hi (n + 1) - lo = min hi n - lo := by omega
      rw [e1]
      simp
      omega
/-- The touched bytes are a cut of the row. -/
theorem tb_cut {ws : List ByteArray} {t : List UInt8} {f u s c q : Nat} : tbI ws t f u s c q u = ((rowI ws t f u s c q u).drop (loN u f q)).take (hiN u f t.length q - loN u f q) := by
  have hh : hiN u f t.length q ≤ u := Nat.min_le_left _ _
  unfold tbI touN
  rw [filter_range, Nat.min_eq_left hh]
  apply List.ext_getElem
  · simp [rowI]; omega
  · intro i h1 h2
    have hi : i < hiN u f t.length q - loN u f q := by simpa using h1
    rw [List.getElem_take, List.getElem_drop]
    simp only [rowI, List.getElem_map, List.getElem_range, touN]
    rw [if_pos (by simp; omega)]
end Go.Ae.C3
namespace Go.Ae.C3
set_option linter.unusedSimpArgs false
set_option linter.unusedVariables false
/-- A row that is read. -/
def encD (r : List UInt8) : List AV := [.rd true (rws encB r)]
set_option maxRecDepth 100000 in
set_option maxHeartbeats 64000000 in
theorem deltasI (k : Nat) {a b u n s f : Nat} {ws : List ByteArray} {t : List UInt8} (h : Wide a b u n ws) (hfm : f + t.length ≤ n) (hs : s * (a * u) ≤ 300) (hp1 : f < (s + 1) * (a * u)) (hp2 : s * (a * u) < f + t.length) :
    call code (k + 7) 116 [wAV a b u n (rws encT ws), .int .i64 s, .agg [.rd false (rws encD (rwL a u ws t f s a)), .rd true (rws encI (chF a u f s (p1N a u s f t.length))), .rd true (rws encI (chL a u f s (p1N a u s f t.length)))]] [] = some ⟨.sl 0 0 0 [] 0 (dlS a b u ws t f s).length, [⟨0, 3, false, true, rws GDelta.enc (dlS a b u ws t f s)⟩], []⟩ := by
  refine call_run rfl fn116 rfl ?_
  have ha1 := h.a1
  have ha4 := h.a4
  have hu1 := h.u1
  have hu8 := h.u8
  have h256 := h.n256
  have hsu : s * u ≤ 400 := by
    have h1 : u ≤ a * u := Nat.le_mul_of_pos_left u ha1
    have := Nat.mul_le_mul_left s h1
    omega
  have f7 : IntKind.wrap .i64 ((s : Int) * (u : Int)) = ((s * u : Nat) : Int) := by rw [← Int.natCast_mul, wrap64 ⟨by omega, by omega⟩]
  have hRl : (rws encD (rwL a u ws t f s a)).length = a := by rw [rws_len, rwL_len]
  generalize hR : rws encD (rwL a u ws t f s a) = R at *
  have hFl : (rws encI (chF a u f s (p1N a u s f t.length))).length = a := by rw [rws_len]; simp [chF]
  have hLl : (rws encI (chL a u f s (p1N a u s f t.length))).length = a := by rw [rws_len]; simp [chL]
  have hFg : ∀ c, c < a → ∀ hh : c < (rws encI (chF a u f s (p1N a u s f t.length))).length, (rws encI (chF a u f s (p1N a u s f t.length)))[c]'hh = [.int .i64 (if loN u f (qN a u s c) < hiN u f t.length (qN a u s c) then ((s * u + loN u f (qN a u s c) : Nat) : Int) else -1)] := fun c hc hh => by
    rw [rws_get]; simp only [chF, List.getElem_map, List.getElem_range, encI, fstP]; rw [hi_end hc hp1]
  have hLg : ∀ c, c < a → ∀ hh : c < (rws encI (chL a u f s (p1N a u s f t.length))).length, (rws encI (chL a u f s (p1N a u s f t.length)))[c]'hh = [.int .i64 (if loN u f (qN a u s c) < hiN u f t.length (qN a u s c) then ((s * u + hiN u f t.length (qN a u s c) - 1 : Nat) : Int) else 0)] := fun c hc hh => by
    rw [rws_get]; simp only [chL, List.getElem_map, List.getElem_range, encI, lstP]; rw [hi_end hc hp1]
  have hRg : ∀ c, c < a → ∀ hh : c < R.length, R[c]'hh = [.rd true (rws encB (rowI ws t f u s c (qN a u s c) u))] := fun c hc hh => by
    subst hR
    rw [rws_get]; simp [rwL, encD]
  generalize hFR : rws encI (chF a u f s (p1N a u s f t.length)) = FR at *
  generalize hLR : rws encI (chL a u f s (p1N a u s f t.length)) = LR at *
  generalize hsu0 : s * u = su at *
  simp [F116, f7, hRl]
  refine RunC_loop (fun c : Nat => ⟨tm 90 [(3, .ptr 0 0 0 [] 0 0), (5, .ptr 0 256 0 [] 0 0), (7, .sl 0 65536 0 [] 0 (dlI a u ws t f s c).length), (8, .sl 0 131072 0 [] 0 c), (9, .int .i64 su), (19, .rd false R), (20, .int .i64 a), (21, .int .i64 c)], [(0, some ⟨0, 5, true, false, [[.int .i64 a, .int .i64 b, .int .i64 u, .int .i64 n, .rd true (rws encT ws)]]⟩), (256, some ⟨0, 3, true, false, [[.rd false R, .rd true FR, .rd true LR]]⟩), (512, some ⟨0, 3, false, true, []⟩), (65536, some ⟨0, 3, false, true, rws GDelta.enc (dlI a u ws t f s c)⟩), (131072, some ⟨0, 1, false, true, rowsS (rwL a u ws t f s c)⟩)], []⟩)
    (fun c => c ≤ a) (fun c => a - c) 0 (Nat.zero_le _) (by simp; omega) (by simp [tm, dlI, rwL, rws, rowsS]) fun c hc _ => ?_
  by_cases hlt : c < a
  · have hsc := idx_succ' hlt (by omega)
    have hrow := rowI_len ws t f u s c (qN a u s c) u
    have hbt := bytesOf_rws (rowI ws t f u s c (qN a u s c) u)
    have hrl := rws_len (enc := encB) (rowI ws t f u s c (qN a u s c) u)
    rw [hrow] at hrl
    have htk : (rws encB (rowI ws t f u s c (qN a u s c) u)).take u = rws encB (rowI ws t f u s c (qN a u s c) u) := List.take_of_length_le (by omega)
    have happ := rowsS_app (rwL a u ws t f s c) (rowI ws t f u s c (qN a u s c) u)
    rw [← rwL_succ] at happ
    have hsl := rowsS_len (rwL a u ws t f s c)
    rw [rwL_len] at hsl
    have hBm : (⟨(rowI ws t f u s c (qN a u s c) u).toArray⟩ : ByteArray) = B (rowI ws t f u s c (qN a u s c) u) := rfl
    have hdl := rws_len (enc := GDelta.enc) (dlI a u ws t f s c)
    have hdle := dlI_le a u ws t f s c
    have hdn : dlI a u ws t f s (c + 1) = dlI a u ws t f s c ++ dlC a u ws t f s c := rfl
    have hFc := hFg c hlt
    have hLc := hLg c hlt
    have hRc := hRg c hlt
    have hlou : loN u f (qN a u s c) ≤ u := Nat.min_le_left _ _
    have hhiu : hiN u f t.length (qN a u s c) ≤ u := Nat.min_le_left _ _
    by_cases hlh : loN u f (qN a u s c) < hiN u f t.length (qN a u s c)
    · rw [if_pos hlh] at hFc hLc
      have hdC : dlC a u ws t f s c = [⟨(c : Int), ((su + loN u f (qN a u s c) : Nat) : Int), B (tbI ws t f u s c (qN a u s c) u)⟩] := by unfold dlC; rw [if_pos hlh, hsu0]
      have hdr : rws GDelta.enc (dlI a u ws t f s c) ++ [[.int .i64 (c : Int), .int .i64 ((su + loN u f (qN a u s c) : Nat) : Int), .str (B (tbI ws t f u s c (qN a u s c) u))]] = rws GDelta.enc (dlI a u ws t f s (c + 1)) := by
        rw [hdn, hdC, rws_app]; rfl
      have hdln : (dlI a u ws t f s (c + 1)).length = (dlI a u ws t f s c).length + 1 := by rw [hdn, hdC]; simp
      have hbt2 := bytesOf_rws (tbI ws t f u s c (qN a u s c) u)
      have hdt : rws encB (tbI ws t f u s c (qN a u s c) u) = ((rws encB (rowI ws t f u s c (qN a u s c) u)).take (hiN u f t.length (qN a u s c))).drop (loN u f (qN a u s c)) := by
        rw [tb_cut, List.drop_take]
        simp [rws, List.map_take, List.map_drop]
      rw [hdt] at hbt2
      have hBm2 : (⟨(tbI ws t f u s c (qN a u s c) u).toArray⟩ : ByteArray) = B (tbI ws t f u s c (qN a u s c) u) := rfl
      have e1 : IntKind.wrap .i64 (((su + loN u f (qN a u s c) : Nat) : Int) - (su : Int)) = ((loN u f (qN a u s c) : Nat) : Int) := by rw [wrap64 ⟨by omega, by omega⟩]; omega
      have e2 : IntKind.wrap .i64 (((su + hiN u f t.length (qN a u s c) - 1 : Nat) : Int) - (su : Int)) = ((hiN u f t.length (qN a u s c) - 1 : Nat) : Int) := by rw [wrap64 ⟨by omega, by omega⟩]; omega
      have e3 : IntKind.wrap .i64 (((hiN u f t.length (qN a u s c) - 1 : Nat) : Int) + 1) = ((hiN u f t.length (qN a u s c) : Nat) : Int) := by rw [wrap64 ⟨by omega, by omega⟩]; omega
      have hall : ∀ y ∈ rws encB (rowI ws t f u s c (qN a u s c) u), y.length = 1 := fun y hy => by
        have := List.all_eq_true.1 (rws_all encB (sz := 1) (fun _ => rfl) (rowI ws t f u s c (qN a u s c) u)) y hy
        simpa using this
      clear hdn hdC hrow hFg hLg hRg hdt
      generalize hRR : rowsS (rwL a u ws t f s (c + 1)) = RR' at *
      generalize rowsS (rwL a u ws t f s c) = RR at *
      generalize rws encB (rowI ws t f u s c (qN a u s c) u) = RW at *
      generalize hD1 : rws GDelta.enc (dlI a u ws t f s (c + 1)) = D' at *
      generalize hD0 : rws GDelta.enc (dlI a u ws t f s c) = D at *
      generalize hdl0 : (dlI a u ws t f s c).length = dl at *
      generalize tbI ws t f u s c (qN a u s c) u = TB at *
      generalize hiN u f t.length (qN a u s c) - 1 = hi1 at *
      generalize su + hiN u f t.length (qN a u s c) - 1 = slh at *
      generalize su + loN u f (qN a u s c) = sl at *
      generalize loN u f (qN a u s c) = lo at *
      generalize hiN u f t.length (qN a u s c) = hi at *
      have hle : lo ≤ hi := by omega
      simp [tm, hlt, hRl, hRc, hFl, hFc, hLl, hLc, hsl, htk, hbt, hBm, hrl, happ, evalW, source, hsc, e1, e2, e3, hbt2, hBm2, hdl, hdr, hle, hhiu, hlou]
      exact ⟨⟨by omega, by omega⟩, hall, ⟨by omega, by omega⟩, c + 1, by omega, by omega, ⟨hdln.symm, rfl, by omega⟩, hD1.symm, hRR.symm⟩
    · rw [if_neg hlh] at hFc hLc
      have hdC : dlC a u ws t f s c = [] := by unfold dlC; rw [if_neg hlh]
      rw [hdC, List.append_nil] at hdn
      have hdr : rws GDelta.enc (dlI a u ws t f s (c + 1)) = rws GDelta.enc (dlI a u ws t f s c) := by rw [hdn]
      have hdln : (dlI a u ws t f s (c + 1)).length = (dlI a u ws t f s c).length := by rw [hdn]
      clear hdn hdC hrow hFg hLg hRg
      generalize hRR : rowsS (rwL a u ws t f s (c + 1)) = RR' at *
      generalize rowsS (rwL a u ws t f s c) = RR at *
      generalize rws encB (rowI ws t f u s c (qN a u s c) u) = RW at *
      generalize hD0 : rws GDelta.enc (dlI a u ws t f s c) = D at *
      generalize hdl0 : (dlI a u ws t f s c).length = dl at *
      simp [tm, hlt, hRl, hRc, hFl, hFc, hsl, htk, hbt, hBm, hrl, happ, evalW, source, hsc]
      exact ⟨⟨by omega, by omega⟩, c + 1, by omega, by omega, ⟨hdln.symm, rfl, by omega⟩, hdr.symm, hRR.symm⟩
  · have : c = a := by omega
    subst this
    have hb3 := h.b3
    have hra : ∀ x ∈ rwL c u ws t f s c, x.length = u := fun x hx => by
      simp only [rwL, List.mem_map] at hx
      obtain ⟨j, _, rfl⟩ := hx
      exact rowI_len ..
    have hen := fun k => encoded k c b (rwL c u ws t f s c) u ha1 (by omega) (rwL_len c u ws t f s c) hra (by omega)
    have hsl := rowsS_len (rwL c u ws t f s c)
    rw [rwL_len] at hsl
    have htk : (rowsS (rwL c u ws t f s c)).take c = rowsS (rwL c u ws t f s c) := List.take_of_length_le (by omega)
    have hPl := pcs_len (gN c b) (c + b) c (rwL c u ws t f s c) u
    have hdle := dlI_le c u ws t f s c
    unfold dlS
    rw [hsu0]
    generalize hP : pcs (gN c b) (c + b) c (rwL c u ws t f s c) u = P at *
    have hPr := rowsS_len P
    rw [hPl] at hPr
    generalize hab0 : c + b = ab at *
    simp [tm, hRl, rcall80, hen, hsl, htk, hPl]
    refine RunC_loop (fun j : Nat => ⟨tm 90 [(3, .ptr 0 0 0 [] 0 0), (7, .sl 0 65536 0 [] 0 ((dlI c u ws t f s c).length + (j - c))), (9, .int .i64 su), (69, .sl 0 721664 0 [] 0 ab), (70, .int .i64 ab), (71, .int .i64 j)], [(0, some ⟨0, 5, true, false, [[.int .i64 c, .int .i64 b, .int .i64 u, .int .i64 n, .rd true (rws encT ws)]]⟩), (256, some ⟨0, 3, true, false, [[.rd false R, .rd true FR, .rd true LR]]⟩), (512, some ⟨0, 3, false, true, []⟩), (65536, some ⟨0, 3, false, true, rws GDelta.enc (dlI c u ws t f s c ++ parI c su P (j - c))⟩), (131072, some ⟨0, 1, false, true, rowsS (rwL c u ws t f s c)⟩), (721664, some ⟨0, 1, false, true, rowsS P⟩)], []⟩)
      (fun j => j ≤ ab) (fun j => ab - j) 0 (Nat.zero_le _) (by simp; omega) (by simp [tm, parI]) fun j hj _ => ?_
    have hdl := rws_len (enc := GDelta.enc) (dlI c u ws t f s c ++ parI c su P (j - c))
    rw [List.length_append, parI_len] at hdl
    by_cases hjb : j < ab
    · have hs1 := idx_succ' hjb (by omega)
      have hrow : ∀ hh : j < (rowsS P).length, (rowsS P)[j]'hh = [.str (B (P.getD j []))] := fun hh => rowsS_at (by omega) hh
      by_cases hcj : c ≤ j
      · have ej : j + 1 - c = (j - c) + 1 := by omega
        have ej2 : c + (j - c) = j := by omega
        have hdr : rws GDelta.enc (dlI c u ws t f s c ++ parI c su P (j - c)) ++ [[.int .i64 (j : Int), .int .i64 (su : Int), .str (B (P.getD j []))]] = rws GDelta.enc (dlI c u ws t f s c ++ parI c su P (j + 1 - c)) := by
          rw [ej, parI_succ, ej2, ← List.append_assoc]
          exact (rws_app (enc := GDelta.enc) (dlI c u ws t f s c ++ parI c su P (j - c)) [⟨(j : Int), (su : Int), B (P.getD j [])⟩]).symm
        generalize hd0 : (dlI c u ws t f s c).length = dl at *
        generalize B (P.getD j []) = X at *
        generalize rowsS P = PR at *
        generalize hDR : rws GDelta.enc (dlI c u ws t f s c ++ parI c su P (j + 1 - c)) = D' at *
        generalize rws GDelta.enc (dlI c u ws t f s c ++ parI c su P (j - c)) = D at *
        simp [tm, hjb, hs1, hrow, hPr, evalW, source, hdl, hdr, hcj]
        exact ⟨⟨by omega, by omega⟩, j + 1, by omega, by omega, ⟨by omega, by omega⟩, hDR.symm⟩
      · have ej : j + 1 - c = j - c := by omega
        generalize hd0 : (dlI c u ws t f s c).length = dl at *
        generalize rowsS P = PR at *
        simp [tm, hjb, hs1, hrow, hPr, hcj]
        exact ⟨j + 1, by omega, by omega, ⟨by omega, by omega⟩, by rw [ej]⟩
    · have : j = ab := by omega
      subst this
      have ej : c + b - c = b := by omega
      have htk2 := tkE (enc := GDelta.enc) (l := dlI c u ws t f s c ++ parI c su P (j - c)) (by rw [List.length_append, parI_len])
      have ej3 : j - c = b := by omega
      rw [ej3] at htk2 hdl ⊢
      generalize hd0 : (dlI c u ws t f s c).length = dl at *
      generalize rws GDelta.enc (dlI c u ws t f s c ++ parI c su P b) = D at *
      simp [tm, hdl, htk2, parI_len]
end Go.Ae.C3
