/- The law FnLost. -/
import Derived.Test.YtnfghcflpnlbiaaC3M16
namespace Go.Ae.C3
set_option linter.unusedSimpArgs false
set_option linter.unusedVariables false
set_option maxHeartbeats 16000000 in
theorem lostFewI (k : Nat) {a b u n : Nat} {ws : List ByteArray} (h : Wide a b u n ws) (ps : List Int) (hn : ps.length ≤ 1048576) (hl : ws.length ≤ 1048576) (f : Nat) (num : Int) (h1 : incB ps = true) (h2 : ps.any (outB (((a + b : Nat) : Int) - 1)) = false) (h3 : f ≤ n) (h4 : 0 ≤ num)
    (hle : a + b < a + ps.length) (hpl : ps.length ≤ a + b) : call code (k + 8) 55 [wV a b u n ws, .rd true (rws encI ps), .int .i64 f, .int .i64 num] [] = some (resT ByteArray.empty 8) := by
  refine call_run rfl fn55 rfl ?_
  have o1 := fun k => wideOk k a b u n ws hl
  rw [h.ok] at o1
  have hb3 := h.b3
  have ha4 := h.a4
  have ha1 := h.a1
  have h256 := h.n256
  have z := fun k => size k a b (by omega)
  have i1 := fun k => increasing k ps hn
  have i2 := fun k => allBetween k ps (((a + b : Nat) : Int) - 1) hn
  have i3 := fun k => between k f 0 n
  have e3 : inB (f : Int) 0 n = true := by simp [inB]; omega
  rw [h1] at i1
  rw [h2] at i2
  rw [e3] at i3
  have w1 : IntKind.wrap .i64 (((a + b : Nat) : Int) - 1) = ((a + b : Nat) : Int) - 1 := wrap64 ⟨by omega, by omega⟩
  have w2 : IntKind.wrap .i64 (((a + b : Nat) : Int) - (ps.length : Int)) = ((a + b - ps.length : Nat) : Int) := by rw [wrap64 ⟨by omega, by omega⟩]; omega
  have d1 : ((a + b - ps.length : Nat) : Int) < (a : Int) := by omega
  have d1' : a + b - ps.length < a := by omega
  have d2 : ¬ num < 0 := by omega
  clear h2
  generalize a + b - ps.length = lf at *
  generalize a + b = ab at *
  simp [F55, rcall49, o1, rcall107, i1, rcall96, z, w1, rcall108, i2, rcall86, i3, d2, w2, d1, d1', resT]
theorem rowsS_set {D : List (List UInt8)} {p : Nat} {w : List UInt8} : (rowsS D).set p [.str (B w)] = rowsS (D.set p w) := by
  unfold rowsS
  rw [List.map_set, ← rws_set]
  rfl
set_option maxRecDepth 100000 in
set_option maxHeartbeats 64000000 in
theorem law11 (n : Nat) (x : List UInt8) : call code (n + 11) 11 [.rd true (rws encU x)] [] = some ⟨.bool true, [], []⟩ := by
  refine call_run rfl fn11 rfl ?_
  by_cases hbig : 1048576 < x.length
  · have hb' : decide ((1048576 : Int) < (x.length : Int)) = true := by simp; omega
    simp [F11, hb']
  have hb' : decide ((1048576 : Int) < (x.length : Int)) = false := by simp; omega
  have hx : x.length ≤ 1048576 := by omega
  obtain ⟨a, b, q1, q3, hc⟩ := a8Code x
  have b0 := fun k => a8Wide k x hx
  have bl := wideL_len x
  generalize wideL x = l at *
  have u0 : ∀ k, call code (k + 1) 33 [.rd true (rws encU x), .int .i64 0, .int .i64 8] [] = some ⟨.int .i64 (aAt x 0 8 : Nat), [], []⟩ := fun k => a8At k x 0 8 hx (by omega) (by omega)
  have q4 := aAt_lt x 0 8 (by omega)
  generalize aAt x 0 8 = u' at *
  have e1 : IntKind.wrap .i64 (1 + (u' : Int)) = ((1 + u' : Nat) : Int) := by rw [wrap64 ⟨by omega, by omega⟩]; omega
  obtain ⟨u, hu⟩ : ∃ u, u = 1 + u' := ⟨_, rfl⟩
  rw [← hu] at e1
  have hu8 : 1 ≤ u ∧ u ≤ 8 := by omega
  have wo := fun k => wideOfI k a b u l q1 q3 hu8 (by omega)
  simp only [resWE] at wo
  have hwl : ((wid a b u l).map B).length = a + b := by rw [List.length_map, wid_len]
  have hab : IntKind.wrap .i64 ((a : Int) + (b : Int)) = ((a + b : Nat) : Int) := by rw [wrap64 ⟨by omega, by omega⟩]; omega
  have e2 : IntKind.wrap .i64 ((l.length : Int) + 1) = ((l.length + 1 : Nat) : Int) := by rw [wrap64 ⟨by omega, by omega⟩]; omega
  have eb : IntKind.wrap .i64 ((b : Int) + 1) = ((b + 1 : Nat) : Int) := by rw [wrap64 ⟨by omega, by omega⟩]; omega
  have u1 : ∀ k, call code (k + 1) 33 [.rd true (rws encU x), .int .i64 1, .int .i64 ((l.length + 1 : Nat) : Int)] [] = some ⟨.int .i64 (aAt x 1 (l.length + 1) : Nat), [], []⟩ := fun k => a8At k x 1 (l.length + 1) hx (by omega) (by omega)
  have q5 := aAt_lt x 1 (l.length + 1) (by omega)
  have u2 : ∀ k, call code (k + 1) 33 [.rd true (rws encU x), .int .i64 2, .int .i64 50] [] = some ⟨.int .i64 (aAt x 2 50 : Nat), [], []⟩ := fun k => a8At k x 2 50 hx (by omega) (by omega)
  have q6 := aAt_lt x 2 50 (by omega)
  have u3 : ∀ k, call code (k + 1) 33 [.rd true (rws encU x), .int .i64 5, .int .i64 ((b + 1 : Nat) : Int)] [] = some ⟨.int .i64 (aAt x 5 (b + 1) : Nat), [], []⟩ := fun k => a8At k x 5 (b + 1) hx (by omega) (by omega)
  have q7 := aAt_lt x 5 (b + 1) (by omega)
  generalize aAt x 1 (l.length + 1) = p at *
  generalize aAt x 2 50 = nm at *
  generalize aAt x 5 (b + 1) = cnt at *
  have pl := fun k => a8Places k x cnt (a + b) hx (by omega) (by omega)
  have pl2 := fun k => a8Places k x (b + 1) (a + b) hx (by omega) (by omega)
  have ps1 := plc_subs x cnt (a + b) (a + b)
  have ps2 := plc_subs x (b + 1) (a + b) (a + b)
  have pc1 := plc_all x cnt (a + b) (by omega)
  have pc2 := plc_all x (b + 1) (a + b) (by omega)
  have pn1 := subs_lt _ ps1
  have pn2 := subs_lt _ ps2
  have pi1 := subs_inc _ _ ps1
  have pi2 := subs_inc _ _ ps2
  rw [pc1] at pl
  rw [pc2] at pl2
  generalize plc x cnt (a + b) (a + b) = ps at *
  generalize plc x (b + 1) (a + b) (a + b) = qs at *
  clear ps1 ps2
  -- the columns turned
  have htall := tallN_le (n := l.length) q1.1 hu8.1
  have hCall : ∀ c ∈ wid a b u l, c.length = tallN a u l.length := wid_all
  have hCl := wid_len a b u l
  have tl := tnI_len x ps (wid a b u l)
  have ta := fun i => tnI_all (x := x) (ps := ps) hCall i
  have W : Wide a b u l.length ((tnI x ps (wid a b u l) ps.length).map B) :=
    ⟨q1.1, q1.2, q3, hu8.1, hu8.2, by omega, by rw [List.length_map, tl, hCl], fun s hs => by
      obtain ⟨y, hy, rfl⟩ := List.mem_map.1 hs
      rw [bsz, ta _ y hy]⟩
  have hoh : onH ((tnI x ps (wid a b u l) ps.length).map B) (castL ps) (a + b) = onH ((wid a b u l).map B) (castL ps) (a + b) := onH_turn (by omega)
  have hcn := keepN_count (n := a + b) (inc_cast pi1) (out_cast pn1)
  rw [← onH_len ((wid a b u l).map B), castL_len, pc1] at hcn
  obtain ⟨m, hm⟩ : ∃ m : Nat, min (nm : Int) ((l.length : Int) - p) = m := ⟨(min (nm : Int) ((l.length : Int) - p)).toNat, by omega⟩
  have gi := fun k => lostGoodI k W W.ok (castL ps) (by rw [castL_len]; omega) (by rw [List.length_map, tl, hCl]; omega) p m nm (inc_cast pi1) (out_cast pn1) (by omega) (by omega) hm (by rw [hoh]; omega)
  have fi := fun k => lostFewI k W (castL qs) (by rw [castL_len]; omega) (by rw [List.length_map, tl, hCl]; omega) p nm (inc_cast pi2) (out_cast pn2) (by omega) (by omega) (by rw [castL_len]; omega) (by rw [castL_len]; omega)
  rw [hoh] at gi
  have hrec : recD a b (tallN a u l.length) (onH ((wid a b u l).map B) (castL ps) (a + b)) = dWs a u l a := by
    refine recD_gen (dWs_len a u l a) (dWs_all a u l a) (onH_haveF (wide_wid q1 q3 hu8 (by omega)) (castL ps)) (by omega) fun i hi => ?_
    rw [onH_get hi]
    have hk : i < (keepN (castL ps) (a + b)).length := by rwa [onH_len] at hi
    have hkl := keepN_lt (List.getElem_mem hk)
    simp only [Int.toNat_natCast]
    rw [List.getD_eq_getElem?_getD, List.getElem?_map, List.getElem?_eq_getElem (by omega)]
    simp only [Option.map_some, Option.getD_some]
    rw [show pcs (gN a b) (a + b) a (dWs a u l a) (tallN a u l.length) = wid a b u l from rfl]
    rw [List.getD_eq_getElem?_getD, List.getElem?_eq_getElem (by omega)]
    rfl
  rw [hrec, rdB_gen (X := dWs a u l a) q1.1 hu8.1 (by rw [dWs_len]; exact Nat.le_refl _) (fun c hc => dWs_at hc) (by omega)] at gi
  have e3 : IntKind.wrap .i64 ((l.length : Int) - (p : Int)) = (l.length : Int) - p := wrap64 ⟨by omega, by omega⟩
  have e4 : (if (l.length : Int) - p < nm then (l.length : Int) - p else nm) = m := by split <;> omega
  have e5 : IntKind.wrap .i64 ((p : Int) + (m : Int)) = ((p + m : Nat) : Int) := by rw [wrap64 ⟨by omega, by omega⟩]; omega
  have hcut : (B l).extract p (p + m) = B ((l.drop p).take m) := by rw [B_cut]; simp
  have hpm : p + m ≤ l.length := by omega
  have hpp : p ≤ p + m := by omega
  have hr0 : rws encT ((wid a b u l).map B) = rowsS (tnI x ps (wid a b u l) 0) := rfl
  have hr1 : ∀ i, rws encT ((tnI x ps (wid a b u l) i).map B) = rowsS (tnI x ps (wid a b u l) i) := fun i => rfl
  have hz1 : rws encI (castL ps) = rowsZ (castL ps) := rfl
  have hz2 : rws encI (castL qs) = rowsZ (castL qs) := rfl
  unfold wV at gi fi
  rw [hr1, hz1] at gi
  rw [hr1, hz2] at fi
  rw [hr0, hwl] at wo
  have hrl : ∀ i, (rowsS (tnI x ps (wid a b u l) i)).length = a + b := fun i => by rw [rowsS_len, tl, hCl]
  have tkR : ∀ i, (rowsS (tnI x ps (wid a b u l) i)).take (a + b) = rowsS (tnI x ps (wid a b u l) i) := fun i => List.take_of_length_le (by rw [hrl]; exact Nat.le_refl _)
  have zl : (rowsZ (castL ps)).length = cnt := by rw [rowsZ_len, castL_len, pc1]
  have zl2 : (rowsZ (castL qs)).length = b + 1 := by rw [rowsZ_len, castL_len, pc2]
  have tZ : (rowsZ (castL ps)).take cnt = rowsZ (castL ps) := List.take_of_length_le (by omega)
  have tZ2 : (rowsZ (castL qs)).take (b + 1) = rowsZ (castL qs) := List.take_of_length_le (by omega)
  clear W hoh hrec hr0 hr1 hcn hz1 hz2 pi2 pn2
  generalize hCC : wid a b u l = C at *
  have hab0 : a + b ≤ 7 := by omega
  generalize hCCa : a + b = ab at *
  generalize hb1 : b + 1 = b1 at *
  generalize l.length + 1 = l1 at *
  generalize hpmE : p + m = pm at *
  simp (maxSteps := 20000000) [F11, hb', rcall30, hc, storeM, rcall46, b0, rcall33, u0, e1, rcall42, wo, hab, eb, u3, rcall35, pl, hrl, tkR, evalW, source]
  refine ⟨fun y hy => ?_, ⟨by omega, by omega⟩, ?_⟩
  · simp only [rowsS, rws, List.mem_map] at hy
    obtain ⟨_, _, rfl⟩ := hy
    rfl
  have hpsl : ps.length = cnt := pc1
  refine RunC_loop (fun i : Nat => ⟨tm 147 [(0, .rd true (rws encU x)), (3, .ptr 0 197120 0 [] 0 0), (4, .str (B l)), (5, .int .i64 l.length), (6, .ptr 0 395520 0 [] 0 0), (8, .sl 0 592640 0 [] 0 cnt), (9, .sl 0 655360 0 [] 0 ab), (10, .int .i64 i)], [(197120, some ⟨0, 2, true, false, [[.int .i64 a, .int .i64 b]]⟩), (394496, some ⟨0, 1, false, true, rowsS (tnI x ps C 0)⟩), (395520, some ⟨0, 5, true, false, [[.int .i64 a, .int .i64 b, .int .i64 u, .int .i64 l.length, .sl 0 394496 0 [] 0 ab]]⟩), (395525, some ⟨0, 1, false, true, []⟩), (592640, some ⟨0, 1, false, true, rowsZ (castL ps)⟩), (655360, some ⟨0, 1, false, true, rowsS (tnI x ps C i)⟩)], []⟩)
    (fun i => i ≤ cnt) (fun i => cnt - i) 0 (Nat.zero_le _) (by simp; omega) (by simp [tm]) fun i hi _ => ?_
  by_cases hlt : i < cnt
  · have hs := idx_succ' hlt (by omega)
    have hil : i < ps.length := by omega
    have hg : ∀ h, (rowsZ (castL ps))[i]'h = [.int .i64 ((ps[i] : Nat) : Int)] := fun h => by simp [rowsZ, castL]
    have hpi := pn1 _ (List.getElem_mem hil)
    have hgd : ps.getD i 0 = ps[i] := by rw [List.getD_eq_getElem?_getD, List.getElem?_eq_getElem hil]; rfl
    have hrow : ∀ h : ps[i] < (rowsS (tnI x ps C i)).length, (rowsS (tnI x ps C i))[ps[i]]'h = [.str (B ((tnI x ps C i).getD ps[i] []))] := fun h => rowsS_at (by rw [tl, hCl]; exact hpi) h
    have hwl2 : ((tnI x ps C i).getD ps[i] []).length ≤ 1000 := by
      have hlt2 : ps[i] < (tnI x ps C i).length := by rw [tl, hCl]; exact hpi
      rw [List.getD_eq_getElem?_getD, List.getElem?_eq_getElem hlt2, Option.getD_some, ta i _ (List.getElem_mem hlt2)]
      omega
    have hrli := hrl i
    by_cases h0 : 0 < ((tnI x ps C i).getD ps[i] []).length
    · have hst : tnI x ps C (i + 1) = (tnI x ps C i).set ps[i] (trn x ((tnI x ps C i).getD ps[i] [])) := by
        rw [tnI, hgd]; unfold tnS; rw [if_pos h0]
      have tc := fun k => trn_call (x := x) (l := (tnI x ps C i).getD ps[i] []) (by omega) hwl2 hx k
      have hset := rowsS_set (D := tnI x ps C i) (p := ps[i]) (w := trn x ((tnI x ps C i).getD ps[i] []))
      rw [← hst] at hset
      have h0' : (0 : Int) < (((tnI x ps C i).getD ps[i] []).length : Int) := by omega
      generalize trn x ((tnI x ps C i).getD ps[i] []) = t at *
      generalize (tnI x ps C i).getD ps[i] [] = w at *
      generalize hRn : rowsS (tnI x ps C (i + 1)) = Rn at *
      generalize rowsS (tnI x ps C i) = R at *
      generalize ps[i] = pp at *
      simp [tm, hlt, hs, zl, hg, hrli, hpi, hrow, h0, h0', rcall39, tc, storeM, hset]
      exact ⟨i + 1, by omega, by omega, by simp, hRn.symm⟩
    · have hst : tnI x ps C (i + 1) = tnI x ps C i := by
        rw [tnI, hgd]; unfold tnS; rw [if_neg h0]
      have h0' : ¬ (0 : Int) < (((tnI x ps C i).getD ps[i] []).length : Int) := by omega
      have hRn : rowsS (tnI x ps C (i + 1)) = rowsS (tnI x ps C i) := by rw [hst]
      generalize (tnI x ps C i).getD ps[i] [] = w at *
      generalize rowsS (tnI x ps C i) = R at *
      generalize ps[i] = pp at *
      simp [tm, hlt, hs, zl, hg, hrli, hpi, hrow, h0, h0']
      exact ⟨i + 1, by omega, by omega, by simp, hRn.symm⟩
  · have : i = cnt := by omega
    subst this
    rw [hpsl] at gi fi
    have hrli := hrl i
    have tki := tkR i
    simp only [resT] at gi fi
    clear ta hCall tl hCl pi1 pn1
    generalize rowsS (tnI x ps C i) = R at *
    simp (maxSteps := 20000000) [tm, zl, hrli, tki, tZ, tZ2, zl2, storeM, rcall33, e2, u1, u2, rcall55, gi, fi, eb, hab, rcall35, pl2, e3, e4, e5, hcut, hpm, hpp]
theorem fitUl : ∀ {xs : List (List AV)}, (∀ r ∈ xs, FitsAll [.int .u8] r) → ∃ l : List UInt8, xs = rws encU l
  | [], _ => ⟨[], rfl⟩
  | r :: xs, h => by
    have h0 := h r List.mem_cons_self
    obtain ⟨_, _, rfl, h1, h0⟩ := h0.cons_inv
    obtain rfl := h0.nil_inv
    obtain ⟨v0, rfl, w0⟩ := h1.int_inv
    simp [Lit.wf, IntKind.min, IntKind.max, IntKind.signed, IntKind.bits] at w0
    obtain ⟨ws, rfl⟩ := fitUl fun x hx => h x (List.mem_cons_of_mem _ hx)
    refine ⟨UInt8.ofNat v0.toNat :: ws, ?_⟩
    have hv : ((UInt8.ofNat v0.toNat).toNat : Int) = v0 := by
      rw [UInt8.toNat_ofNat_of_lt' (by show v0.toNat < 256; omega)]; omega
    rw [rws_cons, encU, hv]
theorem lawLost (avs : List AV) (h : PFitsAll [(false, [.sl 1 [.int .u8]])] avs) : ∃ n bs e, call code n 11 avs [] = some ⟨.bool true, bs, e⟩ := by
  obtain ⟨v0, r, rfl, h0, h⟩ := h.cons_inv
  obtain rfl := h.nil_inv
  obtain ⟨xs, rfl, hl, hr⟩ := h0.one_inv.sl_inv
  obtain ⟨ws, rfl⟩ := fitUl hr
  exact ⟨_, _, _, law11 0 ws⟩
end Go.Ae.C3
