/- The law FnDeltas. -/
import Derived.Test.YtnfghcflpnlbiaaC3M22
import Derived.Test.YtnfghcflpnlbiaaC3M15
namespace Go.Ae.C3
set_option linter.unusedSimpArgs false
set_option linter.unusedVariables false
theorem over_cat (l : List UInt8) (p : Nat) (t : List UInt8) : (B l).extract 0 p ++ B t ++ (B l).extract (p + t.length) l.length = B (over l p t) := by
  have h1 : (B l).extract 0 p = B (l.take p) := by rw [B_cut]; simp
  have h2 : (B l).extract (p + t.length) l.length = B (l.drop (p + t.length)) := by rw [B_cut, List.take_of_length_le (by simp)]
  rw [h1, h2, B_app, B_app]; rfl
/-- The deltas from the last on. -/
theorem revJ {L : List GDelta} {j : Nat} (h : j < L.length) : ∃ (h1 : L.length - 1 - j < L.length) (h2 : j < L.reverse.length), L[L.length - 1 - j] = L.reverse[j] :=
  ⟨by omega, by simpa using h, by rw [List.getElem_reverse]⟩
set_option maxRecDepth 100000 in
set_option maxHeartbeats 64000000 in
theorem law15 (n : Nat) (x : List UInt8) : call code (n + 12) 15 [.rd true (rws encU x)] [] = some ⟨.bool true, [], []⟩ := by
  refine call_run rfl fn15 rfl ?_
  by_cases hbig : 1048576 < x.length
  · have hb' : decide ((1048576 : Int) < (x.length : Int)) = true := by simp; omega
    simp [F15, hb']
  have hb' : decide ((1048576 : Int) < (x.length : Int)) = false := by simp; omega
  have hx : x.length ≤ 1048576 := by omega
  obtain ⟨a, b, q1, q3, hc⟩ := a8Code x
  have b0 := fun k => a8Wide k x hx
  have bl := wideL_len x
  generalize wideL x = l at *
  have u0 : ∀ k, call code (k + 1) 33 [.rd true (rws encU x), .int .i64 0, .int .i64 8] [] = some ⟨.int .i64 (aAt x 0 8 : Nat), [], []⟩ := fun k => a8At k x 0 8 hx (by omega) (by omega)
  have q4 := aAt_lt x 0 8 (by omega)
  generalize aAt x 0 8 = u' at *
  have e1 : IntKind.wrap .i64 (1 + (u' : Int)) = ((1 + u' : Nat) : Int) := by rw [wrap64 ⟨by omega, by omega⟩]; omega
  obtain ⟨u, hu⟩ : ∃ u, u = 1 + u' := ⟨_, rfl⟩
  rw [← hu] at e1
  have hu8 : 1 ≤ u ∧ u ≤ 8 := by omega
  have e2 : IntKind.wrap .i64 ((l.length : Int) + 1) = ((l.length + 1 : Nat) : Int) := by rw [wrap64 ⟨by omega, by omega⟩]; omega
  have u1 : ∀ k, call code (k + 1) 33 [.rd true (rws encU x), .int .i64 1, .int .i64 ((l.length + 1 : Nat) : Int)] [] = some ⟨.int .i64 (aAt x 1 (l.length + 1) : Nat), [], []⟩ := fun k => a8At k x 1 (l.length + 1) hx (by omega) (by omega)
  have q5 := aAt_lt x 1 (l.length + 1) (by omega)
  generalize aAt x 1 (l.length + 1) = p at *
  have m3 := fun k => a8Mix3 k x hx
  have w3 := fun k => a8Word k (3 :: x)
  have wl := wd_len (3 :: x) 0 40 0 (by omega)
  generalize (wd (3 :: x) 0 40 0).1 = t0 at *
  have ht3 : (rws encU (3 :: x)).take (x.length + 1) = rws encU (3 :: x) := List.take_of_length_le (by rw [rws_len]; simp)
  have hrl3 : (rws encU (3 :: x)).length = x.length + 1 := by rw [rws_len]; simp
  obtain ⟨m, hm⟩ : ∃ m, m = min t0.length (l.length - p) := ⟨_, rfl⟩
  obtain ⟨t, ht⟩ : ∃ t, t = t0.take m := ⟨_, rfl⟩
  have htl : t.length = m := by rw [ht, List.length_take]; omega
  have e3 : IntKind.wrap .i64 ((l.length : Int) - (p : Int)) = (l.length : Int) - p := wrap64 ⟨by omega, by omega⟩
  have e4 : (if (l.length : Int) - p < (t0.length : Int) then (l.length : Int) - p else (t0.length : Int)) = m := by split <;> omega
  have hcut0 : (B t0).extract 0 m = B t := by rw [B_cut, ht]; simp
  have hm0 : m ≤ t0.length := by omega
  have hpm : p + t.length ≤ l.length := by omega
  have ol := over_len hpm
  have wo := fun k => wideOfI k a b u l q1 q3 hu8 (by omega)
  have wo2 := fun k => wideOfI k a b u (over l p t) q1 q3 hu8 (by omega)
  rw [ol] at wo2
  have W := wide_wid (b := b) (l := l) q1 q3 hu8 (by omega)
  have W' := wide_wid (b := b) (u := u) (l := over l p t) q1 q3 hu8 (by omega)
  have hwl : ((wid a b u l).map B).length = a + b := by rw [List.length_map, wid_len]
  have hwl' : ((wid a b u (over l p t)).map B).length = a + b := by rw [List.length_map, wid_len]
  have ww := fun k => wideWholeI k W' (by omega)
  rw [rdB_wid q1 q3 hu8.1 (by omega)] at ww
  have r0 : ((over l p t).drop 0).take (over l p t).length = over l p t := by simp
  rw [r0, sameB_refl, ol] at ww
  have htl' := tallN_le (n := l.length) q1.1 hu8.1
  have dG := fun k => deltasOfG k (f := p) (t := t) W hpm
  have ok := dAll_ok W hpm
  have hL := dAll_le a b u l.length ((wid a b u l).map B) t p (by omega) (by omega)
  have wi := fun k => writeWideI k W.cls (by omega) (by omega) p (B t) _ hL ok dG
  rw [deltas_over q1 q3 hu8 (by omega) hpm (.inl rfl)] at wi
  have hov := deltas_over (b := b) (u := u) q1 q3 hu8 (by omega) hpm (.inr rfl)
  have hLp : t ≠ [] → 1 + b ≤ (dAll a b u ((wid a b u l).map B) t p).length := fun h => dAll_pos q1.1 hu8.1 h
  have td := fun k (ws : List ByteArray) (hW : Wide a b u l.length ws) (d : GDelta) (hd : OkD (a + b) (tallN a u l.length) d) => takeDeltaI k hW hd
  have okr : ∀ d ∈ (dAll a b u ((wid a b u l).map B) t p).reverse, OkD (a + b) (tallN a u l.length) d := fun d hd => ok d (List.mem_reverse.1 hd)
  have clj := fun j => colJ_cls W.cls okr j
  generalize dAll a b u ((wid a b u l).map B) t p = L at *
  have hab : IntKind.wrap .i64 ((a : Int) + (b : Int)) = ((a + b : Nat) : Int) := by rw [wrap64 ⟨by omega, by omega⟩]; omega
  have h1b : IntKind.wrap .i64 (1 + (b : Int)) = ((1 + b : Nat) : Int) := by rw [wrap64 ⟨by omega, by omega⟩]; omega
  have k1 := tkE (enc := encT) (l := (wid a b u l).map B) rfl
  have hrl := rws_len (enc := encT) ((wid a b u l).map B)
  have k2 := tkE (enc := encT) (l := (wid a b u (over l p t)).map B) rfl
  have hrl2 := rws_len (enc := encT) ((wid a b u (over l p t)).map B)
  have st := fun k => sameTexts k ((wid a b u (over l p t)).map B) (by omega)
  have kL := tkE (enc := GDelta.enc) (l := L) rfl
  have rL := rws_len (enc := GDelta.enc) L
  have hpm' : IntKind.wrap .i64 ((p : Int) + (m : Int)) = ((p + m : Nat) : Int) := by rw [wrap64 ⟨by omega, by omega⟩]; omega
  have ex1 : (B l).extract 0 p = B (l.take p) := by rw [B_cut]; simp
  have ex2 : (B l).extract (p + m) l.length = B (l.drop (p + m)) := by rw [B_cut, List.take_of_length_le (by simp)]
  have ap1 := B_app (l.take p) t
  have ap2 := B_app (l.take p ++ t) (l.drop (p + m))
  rw [show l.take p ++ t ++ l.drop (p + m) = over l p t by unfold over; rw [htl]] at ap2
  have l1 : (l.take p).length = p := by simp; omega
  have l2 : (l.take p ++ t).length = p + m := by rw [List.length_append, l1, htl]
  have l4 : (l.drop (p + m)).length = l.length - (p + m) := by simp
  have g0 : ∀ j (hj : j < L.length) (hh : L.length - 1 - j < (rws GDelta.enc L).length), (rws GDelta.enc L)[L.length - 1 - j]'hh = GDelta.enc (L.reverse[j]'(by simpa using hj)) := fun j hj hh => by
    rw [rws_get, List.getElem_reverse]
  have c0 : colJ ((wid a b u l).map B) L.reverse 0 = (wid a b u l).map B := rfl
  have cN : colJ ((wid a b u l).map B) L.reverse L.length = (wid a b u (over l p t)).map B := by
    rw [← hov]; unfold colJ; rw [List.take_of_length_le (by simp)]
  have cS := fun j (hj : j < L.length) => colJ_succ (ws := (wid a b u l).map B) (L := L.reverse) (j := j) (by simpa using hj)
  simp only [resWE] at wo wo2 wi
  simp only [resDe] at dG
  rw [hwl] at wo k1 hrl
  rw [hwl'] at wo2 wi k2 hrl2
  have htd := fun j (hj : j < L.length) k => td k _ (⟨q1.1, q1.2, q3, hu8.1, hu8.2, by omega, (clj j).len, (clj j).all⟩ : Wide a b u l.length (colJ ((wid a b u l).map B) L.reverse j)) (L.reverse[j]'(by simpa using hj)) (okr _ (List.getElem_mem _))
  clear td okr ok hov W W'
  generalize hW : (wid a b u l).map B = ws at *
  generalize (wid a b u (over l p t)).map B = vs at *
  generalize over l p t = O at *
  generalize hT2 : l.take p ++ t = T2 at *
  generalize l.take p = T1 at *
  generalize l.drop (p + m) = T4 at *
  generalize hab' : a + b = ab at *
  generalize hl1 : l.length + 1 = ll at *
  generalize hxl : x.length + 1 = xl at *
  generalize rws encU (3 :: x) = U3 at *
  generalize hR1 : rws encT ws = R1 at *
  generalize hR2 : rws encT vs = R2 at *
  generalize hp1 : p + m = pm at *
  have n1 : ¬ (9223372036854775807 : Int) < (T1.length : Int) + t.length := by omega
  have n2 : ¬ (9223372036854775807 : Int) < (T2.length : Int) + T4.length := by omega
  have n3 : p ≤ l.length := by omega
  have n4 : pm ≤ l.length := by omega
  have n5 : m ≤ t0.length := by omega
  simp (maxSteps := 20000000) [F15, hb', rcall30, hc, storeM, rcall46, b0, rcall33, u0, e1, e2, u1, rcall66, m3, ht3, hrl3, rcall65, w3, e3, e4, hcut0, n5, rcall42, wo, k1, hrl, rcall64, wi, htl, ex1, ap1, hpm', ex2, ap2, n1, n2, n3, n4, wo2, k2, hrl2, rcall67, st, rcall50, ww, hab, rcall59, dG]
  refine ⟨by omega, ?_⟩
  cases hz : decide (0 < m)
  rotate_left
  have hm1 : 0 < m := of_decide_eq_true hz
  have hll : 1 + b ≤ L.length := hLp (by intro h; rw [h] at htl; simp at htl; omega)
  have hll' : ¬ L.length < 1 + b := by omega
  generalize h1b' : 1 + b = b1 at *
  simp [storeM, h1b, rL, kL, hll']
  rotate_left
  simp [storeM]
  all_goals
    have hs1 : IntKind.wrap .i64 ((L.length : Int) - 1) = (L.length : Int) - 1 := wrap64 ⟨by omega, by omega⟩
    refine RunC_loop (fun j : Nat => ⟨tm 161 [(13, .ptr 0 791040 0 [] 0 0), (15, .sl 0 983808 0 [] 0 L.length), (17, .ptr 0 1179904 0 [] 0 0), (18, .int .i64 ((L.length : Int) - 1 - j))], [(656128, some ⟨0, 1, false, true, rws encT (colJ ws L.reverse j)⟩), (790016, some ⟨0, 1, false, true, R2⟩), (791040, some ⟨0, 5, true, false, [[.int .i64 a, .int .i64 b, .int .i64 u, .int .i64 l.length, .sl 0 790016 0 [] 0 ab]]⟩), (983808, some ⟨0, 3, false, true, rws GDelta.enc L⟩), (1179904, some ⟨0, 5, true, false, [[.int .i64 a, .int .i64 b, .int .i64 u, .int .i64 l.length, .sl 0 656128 0 [] 0 ab]]⟩)], []⟩)
      (fun j => j ≤ L.length) (fun j => L.length - j) 0 (Nat.zero_le _) (by simp; omega) (by simp [tm, c0, hR1, hs1]) fun j hj _ => ?_
    by_cases hlt : j < L.length
    · have hv : (L.length : Int) - 1 - (j : Int) = ((L.length - 1 - j : Nat) : Int) := by omega
      have hv1 : IntKind.wrap .i64 (((L.length - 1 - j : Nat) : Int) - 1) = (L.length : Int) - 1 - ((j + 1 : Nat) : Int) := by rw [wrap64 ⟨by omega, by omega⟩]; omega
      have hil : L.length - 1 - j < L.length := by omega
      have hg1 := g0 j hlt
      have t1 := htd j hlt
      rw [← cS j hlt] at t1
      have hl1' := (clj (j + 1)).len
      have hl0' := (clj j).len
      have k3 := tkE (enc := encT) (l := colJ ws L.reverse j) hl0'
      have k4 := tkE (enc := encT) (l := colJ ws L.reverse (j + 1)) hl1'
      have r3 := rws_len (enc := encT) (colJ ws L.reverse j)
      have r4 := rws_len (enc := encT) (colJ ws L.reverse (j + 1))
      simp only [resWE] at t1
      rw [hl1'] at t1 r4
      rw [hl0'] at r3
      simp only [GDelta.enc] at hg1 t1
      simp only [hv]
      clear g0 htd cS cN
      generalize hX1 : rws encT (colJ ws L.reverse (j + 1)) = X1 at *
      generalize rws encT (colJ ws L.reverse j) = X0 at *
      generalize rws GDelta.enc L = D at *
      generalize L.length - 1 - j = ix at *
      generalize (L.reverse[j]'(by simpa using hlt)).Pos = dp at *
      generalize (L.reverse[j]'(by simpa using hlt)).At = da at *
      generalize (L.reverse[j]'(by simpa using hlt)).Bytes = db at *
      simp [tm, hg1, hil, rL, storeM, rcall68, t1, k3, k4, r3, r4, hv1]
      exact ⟨j + 1, by omega, by omega, by omega, hX1.symm⟩
    · have : j = L.length := by omega
      subst this
      have hn : ¬ (0 : Int) ≤ (L.length : Int) - 1 - (L.length : Int) := by omega
      have hn2 : decide ((L.length : Int) ≤ (L.length : Int) - 1) = false := decide_eq_false (by omega)
      rw [cN, hR2]
      simp [tm, hn, hn2, k2, hrl2, rcall67, st]
theorem lawDeltas (avs : List AV) (h : PFitsAll [(false, [.sl 1 [.int .u8]])] avs) : ∃ n bs e, call code n 15 avs [] = some ⟨.bool true, bs, e⟩ := by
  obtain ⟨v0, r, rfl, h0, h⟩ := h.cons_inv
  obtain rfl := h.nil_inv
  obtain ⟨xs, rfl, hl, hr⟩ := h0.one_inv.sl_inv
  obtain ⟨ws, rfl⟩ := fitUw hr
  exact ⟨_, _, _, law15 0 ws⟩
end Go.Ae.C3
