/- The law FnStripes. -/
import Derived.Test.YtnfghcflpnlbiaaC3M12
namespace Go.Ae.C3
set_option linter.unusedSimpArgs false
set_option linter.unusedVariables false
set_option maxRecDepth 100000 in
set_option maxHeartbeats 64000000 in
theorem law9 (n : Nat) (x : List UInt8) : call code (n + 11) 9 [.rd true (rws encU x)] [] = some ⟨.bool true, [], []⟩ := by
  refine call_run rfl fn9 rfl ?_
  by_cases hbig : 1048576 < x.length
  · have hb' : decide ((1048576 : Int) < (x.length : Int)) = true := by simp; omega
    simp [F9, hb']
  have hb' : decide ((1048576 : Int) < (x.length : Int)) = false := by simp; omega
  have hx : x.length ≤ 1048576 := by omega
  obtain ⟨a, b, q1, q3, hc⟩ := a8Code x
  have b0 := fun k => a8Wide k x hx
  have bl := wideL_len x
  generalize wideL x = l at *
  have u0 : ∀ k, call code (k + 1) 33 [.rd true (rws encU x), .int .i64 0, .int .i64 8] [] = some ⟨.int .i64 (aAt x 0 8 : Nat), [], []⟩ := fun k => a8At k x 0 8 hx (by omega) (by omega)
  have q4 := aAt_lt x 0 8 (by omega)
  generalize aAt x 0 8 = u' at *
  have e1 : IntKind.wrap .i64 (1 + (u' : Int)) = ((1 + u' : Nat) : Int) := by rw [wrap64 ⟨by omega, by omega⟩]; omega
  obtain ⟨u, hu⟩ : ∃ u, u = 1 + u' := ⟨_, rfl⟩
  rw [← hu] at e1
  have hu8 : 1 ≤ u ∧ u ≤ 8 := by omega
  have wo := fun k => wideOfI k a b u l q1 q3 hu8 (by omega)
  have W := wide_wid (b := b) (l := l) q1 q3 hu8 (by omega)
  have hwl : ((wid a b u l).map B).length = a + b := by rw [List.length_map, wid_len]
  have wb := fun k => wideBodyI k W (by omega)
  rw [rdB_wid q1 q3 hu8.1 (by omega)] at wb
  have r0 : (l.drop 0).take l.length = l := by simp
  rw [r0] at wb
  have ww := fun k => wideWholeI k W (by omega)
  rw [rdB_wid q1 q3 hu8.1 (by omega), r0, sameB_refl] at ww
  have ok := fun k => wideOk k a b u l.length ((wid a b u l).map B) (by omega)
  rw [W.ok] at ok
  have e2 : IntKind.wrap .i64 ((l.length : Int) + 1) = ((l.length + 1 : Nat) : Int) := by rw [wrap64 ⟨by omega, by omega⟩]; omega
  have u1 : ∀ k, call code (k + 1) 33 [.rd true (rws encU x), .int .i64 1, .int .i64 ((l.length + 1 : Nat) : Int)] [] = some ⟨.int .i64 (aAt x 1 (l.length + 1) : Nat), [], []⟩ := fun k => a8At k x 1 (l.length + 1) hx (by omega) (by omega)
  have q5 := aAt_lt x 1 (l.length + 1) (by omega)
  have u2 : ∀ k, call code (k + 1) 33 [.rd true (rws encU x), .int .i64 2, .int .i64 50] [] = some ⟨.int .i64 (aAt x 2 50 : Nat), [], []⟩ := fun k => a8At k x 2 50 hx (by omega) (by omega)
  have q6 := aAt_lt x 2 50 (by omega)
  generalize aAt x 1 (l.length + 1) = p at *
  generalize aAt x 2 50 = nm at *
  obtain ⟨m, hm⟩ : ∃ m : Nat, min (nm : Int) ((l.length : Int) - p) = m := ⟨(min (nm : Int) ((l.length : Int) - p)).toNat, by omega⟩
  have rw' := fun k => readWideI k W (by omega) p m nm (by omega) (by omega) hm
  rw [rdB_wid q1 q3 hu8.1 (by omega)] at rw'
  have e3 : IntKind.wrap .i64 ((l.length : Int) - (p : Int)) = (l.length : Int) - p := wrap64 ⟨by omega, by omega⟩
  have e4 : (if (l.length : Int) - p < nm then (l.length : Int) - p else nm) = m := by split <;> omega
  have e5 : IntKind.wrap .i64 ((p : Int) + (m : Int)) = ((p + m : Nat) : Int) := by rw [wrap64 ⟨by omega, by omega⟩]; omega
  have hcut : (B l).extract p (p + m) = B ((l.drop p).take m) := by rw [B_cut]; simp
  have hab : IntKind.wrap .i64 ((a : Int) + (b : Int)) = ((a + b : Nat) : Int) := by rw [wrap64 ⟨by omega, by omega⟩]; omega
  have hpm : p + m ≤ l.length := by omega
  have k1 := tkE (enc := encT) (l := (wid a b u l).map B) rfl
  have hrl := rws_len (enc := encT) ((wid a b u l).map B)
  simp only [resWE] at wo
  rw [hwl] at wo k1 hrl
  by_cases hpe : p = l.length
  · have hpe' : ((p : Int) == (l.length : Int)) = true := by simp [hpe]
    clear W
    generalize rws encT ((wid a b u l).map B) = R at *
    generalize a + b = ab at *
    generalize l.length + 1 = l1 at *
    generalize hpm' : p + m = pm at *
    have hpp : p ≤ pm := by omega
    simp (maxSteps := 20000000) [F9, hb', rcall30, hc, storeM, rcall46, b0, rcall33, u0, e1, rcall42, wo, rcall47, wb, e2, u1, u2, rcall48, rw', e3, e4, e5, hcut, rcall49, ok, rcall50, ww, hab, k1, hrl, hpm, hpp, hpe']
  have hpl : p < l.length := by omega
  have co := fun k => cellOfI k W (by omega) p hpl
  have hcl := colN_lt q1.1 hu8.1 p
  have hol := offN_lt q1.1 hu8.1 hpl
  have hpe' : ((p : Int) == (l.length : Int)) = false := by simp; omega
  have hR : ∀ h, (rws encT ((wid a b u l).map B))[colN a u p]'h = [.str (B (dW a u l (colN a u p)))] := fun h => by
    have e := wid_top (b := b) (u := u) (l := l) q1 q3 hcl
    rw [rws_get, List.getElem_map, ← e, List.getD_eq_getElem?_getD, List.getElem?_eq_getElem (by rw [wid_len]; omega)]
    rfl
  have hdl := dW_len a u l (colN a u p)
  rw [← hdl] at hol
  have hby : ∀ h, (B (dW a u l (colN a u p)))[offN a u p]'h = l[p] := fun h => by
    have : (dW a u l (colN a u p))[offN a u p]? = some l[p] := by
      have hol' := hol
      rw [hdl] at hol'
      unfold dW dWi
      rw [List.getElem?_map, List.getElem?_range hol', Option.map_some, pos_of_cell q1.1 hu8.1, List.getD_eq_getElem?_getD, List.getElem?_eq_getElem hpl]
      rfl
    rw [List.getElem?_eq_getElem hol] at this
    exact Option.some.inj this
  have hbl : ∀ h, (B l)[p]'h = l[p] := fun h => rfl
  have hcab : colN a u p < a + b := by omega
  clear W hdl
  generalize dW a u l (colN a u p) = D at *
  generalize rws encT ((wid a b u l).map B) = R at *
  generalize colN a u p = c at *
  generalize offN a u p = o at *
  generalize a + b = ab at *
  generalize l.length + 1 = l1 at *
  generalize hpm' : p + m = pm at *
  have hpp : p ≤ pm := by omega
  simp (maxSteps := 20000000) [F9, hb', rcall30, hc, storeM, rcall46, b0, rcall33, u0, e1, rcall42, wo, rcall47, wb, e2, u1, u2, rcall48, rw', e3, e4, e5, hcut, rcall49, ok, rcall50, ww, hab, k1, hrl, rcall51, co, hcl, hol, hR, hcab, hby, hbl, hpl, hpm, hpp, hpe']
  rfl
theorem fitUw : ∀ {xs : List (List AV)}, (∀ r ∈ xs, FitsAll [.int .u8] r) → ∃ l : List UInt8, xs = rws encU l
  | [], _ => ⟨[], rfl⟩
  | r :: xs, h => by
    have h0 := h r List.mem_cons_self
    obtain ⟨_, _, rfl, h1, h0⟩ := h0.cons_inv
    obtain rfl := h0.nil_inv
    obtain ⟨v0, rfl, w0⟩ := h1.int_inv
    simp [Lit.wf, IntKind.min, IntKind.max, IntKind.signed, IntKind.bits] at w0
    obtain ⟨ws, rfl⟩ := fitUw fun x hx => h x (List.mem_cons_of_mem _ hx)
    refine ⟨UInt8.ofNat v0.toNat :: ws, ?_⟩
    have hv : ((UInt8.ofNat v0.toNat).toNat : Int) = v0 := by
      rw [UInt8.toNat_ofNat_of_lt' (by show v0.toNat < 256; omega)]; omega
    rw [rws_cons, encU, hv]
theorem lawStripes (avs : List AV) (h : PFitsAll [(false, [.sl 1 [.int .u8]])] avs) : ∃ n bs e, call code n 9 avs [] = some ⟨.bool true, bs, e⟩ := by
  obtain ⟨v0, r, rfl, h0, h⟩ := h.cons_inv
  obtain rfl := h.nil_inv
  obtain ⟨xs, rfl, hl, hr⟩ := h0.one_inv.sl_inv
  obtain ⟨ws, rfl⟩ := fitUw hr
  exact ⟨_, _, _, law9 0 ws⟩
end Go.Ae.C3
