/- The law FnAnyK. -/
import Derived.Test.YtnfghcflpnlbiaaC3MF
namespace Go.Ae.C3
set_option linter.unusedSimpArgs false
set_option linter.unusedVariables false
theorem tkH {α : Type} {enc : α → List AV} {l : List α} {n : Nat} (h : l.length = n) : (rws enc l).take n = rws enc l := by subst h; exact rws_takeLen enc l
theorem shardsOfI (n : Nat) (a b : Nat) (l : List UInt8) (hl : l.length ≤ 64) (q1 : 1 ≤ a ∧ a ≤ 4) (q3 : b ≤ 3) : call code (n + 9) 32 [.agg [.int .i64 a, .int .i64 b], .str (B l)] [] = some ⟨.tup [.sl 0 0 0 [] 0 (a + b), .bool true], [⟨0, 1, false, true, rowsS (shs a b l)⟩], []⟩ := by
  refine call_run rfl fn32 rfl ?_
  have i1 := fun k => codeOk k a b
  have c1 : codeB a b = true := by simp [codeB, inB]; omega
  have c2 : decide ((64 : Int) < (l.length : Int)) = false := by simp; omega
  have ish := fun k => shards k a b l q1.1 (by omega) (by omega)
  generalize a + b = ab at *
  simp [F32, rcall84, i1, c1, c2, rcall85, ish]
theorem haveB_of {a b n : Nat} {ws : List GShard} (h1 : 1 ≤ a ∧ a ≤ 4) (h2 : b ≤ 3) (hn : n ≤ 64) (h : haveL a b (psz a n) ws = true) : haveB a b n ws = true := by
  unfold haveB
  have c1 : codeB a b = true := by simp [codeB, inB]; omega
  have c2 : inB (n : Int) 0 64 = true := by simp [inB]; omega
  rw [c1, c2]
  simpa using h
/-- What is on hand at some places of a body's shards. -/
theorem hv_all {a b : Nat} {l : List UInt8} {ps : List Nat} (h1 : 1 ≤ a ∧ a ≤ 4) (h2 : b ≤ 3) (hinc : ∀ i j (hi : i < j) (hj : j < ps.length), ps[i] < ps[j]) (hlt : ∀ p ∈ ps, p < a + b) : haveL a b (psz a l.length) (hvL (shs a b l) ps) = true :=
  hvL_haveL hinc hlt fun p hp => by
    have h := hlt p hp
    have hl : p < (shs a b l).length := by rw [shs_len]; exact h
    rw [List.getD_eq_getElem?_getD, List.getElem?_eq_getElem hl]
    exact shs_all h1.1 _ (List.getElem_mem hl)
set_option maxRecDepth 100000 in
set_option maxHeartbeats 64000000 in
theorem law6 (n : Nat) (l : List UInt8) : call code (n + 10) 6 [.rd true (rws encU l)] [] = some ⟨.bool true, [], []⟩ := by
  refine call_run rfl fn6 rfl ?_
  by_cases hbig : 1048576 < l.length
  · have hb' : decide ((1048576 : Int) < (l.length : Int)) = true := by simp; omega
    simp [F6, hb']
  have hb' : decide ((1048576 : Int) < (l.length : Int)) = false := by simp; omega
  have hl : l.length ≤ 1048576 := by omega
  obtain ⟨a, b, q1, q3, hc⟩ := a8Code l
  have b0 := fun k => a8Body k l hl
  have bl := bodyL_len l
  generalize bodyL l = w at *
  have sh := fun n => shardsOfI n a b w bl q1 q3
  have e1 : IntKind.wrap .i64 ((b : Int) + 1) = ((b + 1 : Nat) : Int) := by rw [wrap64 ⟨by omega, by omega⟩]; omega
  have a1 : ∀ k, call code (k + 1) 33 [.rd true (rws encU l), .int .i64 1, .int .i64 ((b + 1 : Nat) : Int)] [] = some ⟨.int .i64 (aAt l 1 (b + 1) : Nat), [], []⟩ := fun k => a8At k l 1 (b + 1) hl (by omega) (by omega)
  have q4 := aAt_lt l 1 (b + 1) (by omega)
  generalize aAt l 1 (b + 1) = m0 at *
  have e2 : IntKind.wrap .i64 ((a : Int) + (m0 : Int)) = ((a + m0 : Nat) : Int) := by rw [wrap64 ⟨by omega, by omega⟩]; omega
  have e3 : IntKind.wrap .i64 ((a : Int) + (b : Int)) = ((a + b : Nat) : Int) := by rw [wrap64 ⟨by omega, by omega⟩]; omega
  have pl := fun k => a8Places k l (a + m0) (a + b) hl (by omega) (by omega)
  have hps := plc_subs l (a + m0) (a + b) (a + b)
  have hpn := subs_lt _ hps
  have hpk := plc_all l (a + m0) (a + b) (by omega)
  have hinc := subs_inc _ _ hps
  generalize plc l (a + m0) (a + b) (a + b) = ps at *
  have hAl := shs_len a b w
  have ah := fun k => a8Have k (shs a b w) ps (fun p hp => by rw [hAl]; exact hpn p hp) (by omega) (by omega)
  have hv := hv_all (l := w) q1 q3 hinc hpn
  have hvl := hvL_len (shs a b w) ps
  have hB := haveB_of q1 q3 bl hv
  have H := haveF q1 q3 hv
  have ho := fun k => haveOk k a b w.length (hvL (shs a b w) ps) (by omega)
  rw [hB] at ho
  have bg := fun k => bodyGood k hB H bl (by omega) (by omega)
  rw [bodyD_orig H (by omega) (hvL_bytes (a := a) (b := b) (q := 0))] at bg
  have hv2 := hv_all (l := w) (ps := ps.take (a - 1)) q1 q3 (fun i j hi hj => by
    rw [List.getElem_take, List.getElem_take]; exact hinc i j hi (by simp at hj; omega)) (fun p hp => hpn p (List.mem_of_mem_take hp))
  have hvl2 := hvL_len (shs a b w) (ps.take (a - 1))
  rw [List.length_take] at hvl2
  have bf := fun k => bodyFew k (haveB_of q1 q3 bl hv2) (by omega) (by omega)
  rw [← hvL_take] at bf
  have e4 : IntKind.wrap .i64 ((a : Int) - 1) = ((a - 1 : Nat) : Int) := by rw [wrap64 ⟨by omega, by omega⟩]; omega
  have hle : (((a - 1 : Nat)) : Int) ≤ (ps.length : Int) := by omega
  have hle' : a - 1 ≤ ps.length := by omega
  have hmn : min (a - 1) ps.length = a - 1 := by omega
  generalize hvL (shs a b w) ps = HV at *
  have tS := tkH (enc := GShard.enc) (l := HV) hvl
  have tA : (rowsS (shs a b w)).take (a + b) = rowsS (shs a b w) := List.take_of_length_le (by rw [rowsS_len]; omega)
  have hAr : (rowsS (shs a b w)).length = a + b := by rw [rowsS_len]; exact hAl
  have tP : (rowsZ (castL ps)).take (a + m0) = rowsZ (castL ps) := List.take_of_length_le (by rw [rowsZ_len, castL_len]; omega)
  have hPr : (rowsZ (castL ps)).length = a + m0 := by rw [rowsZ_len, castL_len, hpk]
  have hSr : (rws GShard.enc HV).length = a + m0 := by rw [rws_len, hvl, hpk]
  rw [hpk] at pl ah tS hle hle' hmn
  simp only [resT] at bg bf
  clear hB H hv hv2 hvl hvl2 hinc hpn hps hpk hAl
  generalize rowsS (shs a b w) = A at *
  generalize rowsZ (castL ps) = P at *
  generalize a + m0 = am at *
  generalize hab : a + b = ab at *
  generalize hb1 : b + 1 = b1 at *
  generalize ha1 : a - 1 = am1 at *
  have hall : ∀ x ∈ rws GShard.enc HV, x.length = 2 := fun x hx => by
    have := List.all_eq_true.1 (rws_all GShard.enc (sz := 2) (fun _ => rfl) HV) x hx
    simpa using this
  simp (maxSteps := 20000000) [F6, hb', rcall30, hc, rcall31, b0, rcall32, sh, e1, rcall33, a1, e2, e3, rcall35, pl, tA, hAr, tP, hPr, rcall34, ah, tS, hSr, rcall36, ho, rcall20, bg, e4, hle, hle', hmn, bf]
theorem fitU : ∀ {xs : List (List AV)}, (∀ r ∈ xs, FitsAll [.int .u8] r) → ∃ l : List UInt8, xs = rws encU l
  | [], _ => ⟨[], rfl⟩
  | r :: xs, h => by
    have h0 := h r List.mem_cons_self
    obtain ⟨_, _, rfl, h1, h0⟩ := h0.cons_inv
    obtain rfl := h0.nil_inv
    obtain ⟨v0, rfl, w0⟩ := h1.int_inv
    simp [Lit.wf, IntKind.min, IntKind.max, IntKind.signed, IntKind.bits] at w0
    obtain ⟨ws, rfl⟩ := fitU fun x hx => h x (List.mem_cons_of_mem _ hx)
    refine ⟨UInt8.ofNat v0.toNat :: ws, ?_⟩
    have hv : ((UInt8.ofNat v0.toNat).toNat : Int) = v0 := by
      rw [UInt8.toNat_ofNat_of_lt' (by show v0.toNat < 256; omega)]; omega
    rw [rws_cons, encU, hv]
theorem lawAnyK (avs : List AV) (h : PFitsAll [(false, [.sl 1 [.int .u8]])] avs) : ∃ n bs e, call code n 6 avs [] = some ⟨.bool true, bs, e⟩ := by
  obtain ⟨v0, r, rfl, h0, h⟩ := h.cons_inv
  obtain rfl := h.nil_inv
  obtain ⟨xs, rfl, hl, hr⟩ := h0.one_inv.sl_inv
  obtain ⟨ws, rfl⟩ := fitU hr
  exact ⟨_, _, _, law6 0 ws⟩
end Go.Ae.C3
