/- DeltasOf, the program's. -/
import Derived.Test.YtnfghcflpnlbiaaC3M19
import Derived.Test.YtnfghcflpnlbiaaC3M14
namespace Go.Ae.C3
set_option linter.unusedSimpArgs false
set_option linter.unusedVariables false
theorem deepEncO (D : List (List UInt8)) : AV.deepRows (rws encO D) = rws encD D := by
  rw [deepRows_map]
  simp only [rws, List.map_map]
  refine List.map_congr_left fun r _ => ?_
  have hf : AV.deepRows (rws encB r) = rws encB r := deepRows_flat (fun x hx v hv => by
    simp only [rws, List.mem_map] at hx
    obtain ⟨y, _, rfl⟩ := hx
    simp [encB] at hv
    subst hv
    rfl)
  simp [encO, encD, AV.deep, rws] at hf ⊢
  exact hf
theorem deepI (D : List Int) : AV.deepRows (rws encI D) = rws encI D := deepRows_flat (fun x hx v hv => by
  simp only [rws, List.mem_map] at hx
  obtain ⟨y, _, rfl⟩ := hx
  simp [encI] at hv
  subst hv
  rfl)
set_option maxRecDepth 100000 in
set_option maxHeartbeats 64000000 in
theorem deltasOfI (k : Nat) {a b u n f : Nat} {ws : List ByteArray} {t : List UInt8} (h : Wide a b u n ws) (hl : ws.length ≤ 1048576) (hfm : f + t.length ≤ n) (ht : t ≠ []) : call code (k + 9) 59 [wAV a b u n (rws encT ws), .int .i64 f, .str (B t)] [] = some ⟨.tup [.sl 0 0 0 [] 0 (dAll a b u ws t f).length, .int .i64 0], [⟨0, 3, false, true, rws GDelta.enc (dAll a b u ws t f)⟩], []⟩ := by
  refine call_run rfl fn59 rfl ?_
  have ha1 := h.a1
  have ha4 := h.a4
  have hu1 := h.u1
  have hu8 := h.u8
  have hb3 := h.b3
  have h256 := h.n256
  have o1 := fun k => wideOk k a b u n ws hl
  rw [h.ok] at o1
  have i3 := fun k => between k f 0 n
  have e3 : inB (f : Int) 0 n = true := by simp [inB]; omega
  rw [e3] at i3
  have w3 : IntKind.wrap .i64 ((n : Int) - (f : Int)) = (n : Int) - f := wrap64 ⟨by omega, by omega⟩
  have d1 : ¬ ((n : Int) - f < t.length) := by omega
  have st := fun k => stripe k a b u n (rws encT ws) ⟨ha1, ha4⟩ ⟨hu1, hu8⟩
  have hau := mul_le a u ha4 hu8
  have hau1 := mul_pos' ha1 hu1
  have htl : 0 < t.length := List.length_pos_iff.2 ht
  have hne : (B t).toList.isEmpty = false := by simp [B, ht]
  unfold dAll nsN
  rw [if_neg (by omega)]
  have cO := fun k s h1 h2 h3 => changeOf k (s := s) (f := f) (t := t) h hfm h1 h2 h3
  have dI := fun k s h1 h2 h3 => deltasI k (s := s) (f := f) (t := t) h hfm h1 h2 h3
  unfold wAV at *
  generalize hS : a * u = S at *
  have hS0 : ¬ S = 0 := by omega
  obtain ⟨d3, d3'⟩ := wdiv (x := f) (y := S) (by omega)
  obtain ⟨m, hm⟩ : ∃ m, m = (f + t.length - 1) / S + 1 - f / S := ⟨_, rfl⟩
  rw [← hm]
  have w1 : IntKind.wrap .i64 ((f : Int) + (t.length : Int)) = ((f + t.length : Nat) : Int) := by rw [wrap64 ⟨by omega, by omega⟩]; omega
  have hle : f / S ≤ (f + t.length - 1) / S := Nat.div_le_div_right (by omega)
  have hlo : f / S * S ≤ f := Nat.div_mul_le_self _ _
  have hhi : f < (f / S + 1) * S := by rw [Nat.add_mul, Nat.one_mul, Nat.mul_comm]; exact Nat.lt_mul_div_succ f (by omega)
  have hcond : ∀ s, s * S < f + t.length ↔ s ≤ (f + t.length - 1) / S := fun s => by
    rw [Nat.le_div_iff_mul_le (by omega)]
    omega
  have hq : (f + t.length - 1) / S ≤ f + t.length - 1 := Nat.div_le_self _ _
  generalize hs1 : (f + t.length - 1) / S = s1 at *
  generalize hs0 : f / S = s0 at *
  simp [F59, rcall49, o1, rcall86, i3, w3, d1, rcall115, st, hS0, d3, d3', hne]
  refine RunC_loop (fun j : Nat => ⟨tm 58 [(1, .int .i64 f), (2, .str (B t)), (3, .ptr 0 0 0 [] 0 0), (8, .sl 0 458752 0 [] 0 (dsI a b u ws t f s0 j).length), (9, .int .i64 (s0 + j : Nat))], [(0, some ⟨0, 5, true, false, [[.int .i64 a, .int .i64 b, .int .i64 u, .int .i64 n, .rd true (rws encT ws)]]⟩), (256, some ⟨0, 3, false, true, []⟩), (458752, some ⟨0, 3, false, true, rws GDelta.enc (dsI a b u ws t f s0 j)⟩)], []⟩)
    (fun j => j ≤ m) (fun j => m - j) 0 (Nat.zero_le _) (by simp; omega) (by simp [tm, dsI, rws]) fun j hj _ => ?_
  have hdl := rws_len (enc := GDelta.enc) (dsI a b u ws t f s0 j)
  have hdle := dsI_le a b u ws t f s0 j
  have hw0 : ((s0 + j : Nat) : Int) * (S : Int) = (((s0 + j) * S : Nat) : Int) := by simp
  have hw1 : IntKind.wrap .i64 (((s0 + j : Nat) : Int) * (S : Int)) = (((s0 + j) * S : Nat) : Int) := by
    rw [hw0, wrap64 ⟨by omega, ?_⟩]
    have : s0 + j ≤ 300 := by omega
    have := Nat.mul_le_mul this hau
    omega
  by_cases hjm : j < m
  · have hs1' : IntKind.wrap .i64 (((s0 + j : Nat) : Int) + 1) = ((s0 + (j + 1) : Nat) : Int) := by rw [wrap64 ⟨by omega, by omega⟩]; omega
    have hlt : (s0 + j) * S < f + t.length := (hcond _).2 (by omega)
    have hp1 : f < (s0 + j + 1) * S := Nat.lt_of_lt_of_le hhi (Nat.mul_le_mul_right S (by omega))
    have c1 := fun k => cO k (s0 + j) (by omega) hp1 hlt
    have c2 := fun k => dI k (s0 + j) (by omega) hp1 hlt
    have hce := chR_end (a := a) (u := u) (s := s0 + j) (f := f) (ws := ws) (t := t) (by rw [hS]; exact hp1)
    rw [hce] at c1
    have hde := deepEncO (rwL a u ws t f (s0 + j) a)
    have hcl := dlS_le a b u ws t f (s0 + j)
    have hdr : rws GDelta.enc (dsI a b u ws t f s0 j) ++ rws GDelta.enc (dlS a b u ws t f (s0 + j)) = rws GDelta.enc (dsI a b u ws t f s0 (j + 1)) := by rw [dsI, rws_app]
    have hdn : (dsI a b u ws t f s0 (j + 1)).length = (dsI a b u ws t f s0 j).length + (dlS a b u ws t f (s0 + j)).length := by rw [dsI, List.length_append]
    have hcr := rws_len (enc := GDelta.enc) (dlS a b u ws t f (s0 + j))
    have htk := tkE (enc := GDelta.enc) (l := dlS a b u ws t f (s0 + j)) rfl
    have hall : ∀ y ∈ rws GDelta.enc (dlS a b u ws t f (s0 + j)), y.length = 3 := fun y hy => by
      have := List.all_eq_true.1 (rws_all GDelta.enc (sz := 3) (fun _ => rfl) (dlS a b u ws t f (s0 + j))) y hy
      simpa using this
    have hjb : j * (a + b) ≤ 300 * 7 := Nat.mul_le_mul (by omega) (by omega)
    have hl1 := rws_len (enc := encO) (rwL a u ws t f (s0 + j) a)
    rw [rwL_len] at hl1
    have hl2 : (rws encI (chF a u f (s0 + j) (p1N a u (s0 + j) f t.length))).length = a := by rw [rws_len]; simp [chF]
    have hl3 : (rws encI (chL a u f (s0 + j) (p1N a u (s0 + j) f t.length))).length = a := by rw [rws_len]; simp [chL]
    have ht1 : (rws encO (rwL a u ws t f (s0 + j) a)).take a = rws encO (rwL a u ws t f (s0 + j) a) := List.take_of_length_le (by omega)
    have ht2 : (rws encI (chF a u f (s0 + j) (p1N a u (s0 + j) f t.length))).take a = rws encI (chF a u f (s0 + j) (p1N a u (s0 + j) f t.length)) := List.take_of_length_le (by omega)
    have ht3 : (rws encI (chL a u f (s0 + j) (p1N a u (s0 + j) f t.length))).take a = rws encI (chL a u f (s0 + j) (p1N a u (s0 + j) f t.length)) := List.take_of_length_le (by omega)
    have hd2 : AV.deepRows (rws encI (chF a u f (s0 + j) (p1N a u (s0 + j) f t.length))) = rws encI (chF a u f (s0 + j) (p1N a u (s0 + j) f t.length)) := deepI _
    have hd3 : AV.deepRows (rws encI (chL a u f (s0 + j) (p1N a u (s0 + j) f t.length))) = rws encI (chL a u f (s0 + j) (p1N a u (s0 + j) f t.length)) := deepI _
    clear hce
    generalize rws encO (rwL a u ws t f (s0 + j) a) = RO at *
    generalize rws encD (rwL a u ws t f (s0 + j) a) = RD at *
    generalize rws encI (chF a u f (s0 + j) (p1N a u (s0 + j) f t.length)) = RF at *
    generalize rws encI (chL a u f (s0 + j) (p1N a u (s0 + j) f t.length)) = RL at *
    generalize hDR : rws GDelta.enc (dsI a b u ws t f s0 (j + 1)) = D' at *
    generalize rws GDelta.enc (dsI a b u ws t f s0 j) = D at *
    generalize hd0 : (dsI a b u ws t f s0 j).length = dl at *
    generalize rws GDelta.enc (dlS a b u ws t f (s0 + j)) = C at *
    generalize (dlS a b u ws t f (s0 + j)).length = cl at *
    generalize (s0 + j) * S = sS at *
    generalize hsj1 : s0 + (j + 1) = sj1 at *
    generalize hsj : s0 + j = sj at *
    generalize hft : f + t.length = ft at *
    simp [tm, w1, hw1, hlt, rcall115, st, rcall117, c1, rcall116, c2, evalW, source, hl1, hl2, hl3, ht1, ht2, ht3, hde, hd2, hd3, hs1', hdl, hcr, htk, hdr]
    exact ⟨hall, ⟨by omega, by omega⟩, j + 1, by omega, by omega, ⟨hdn.symm, by omega⟩, hDR.symm⟩
  · have : j = m := by omega
    subst this
    have hlt : ¬ (s0 + j) * S < f + t.length := fun h => hjm (by have := (hcond _).1 h; omega)
    have htk := tkE (enc := GDelta.enc) (l := dsI a b u ws t f s0 j) rfl
    generalize rws GDelta.enc (dsI a b u ws t f s0 j) = D at *
    generalize (s0 + j) * S = sS at *
    generalize hsj : s0 + j = sj at *
    generalize hft : f + t.length = ft at *
    simp [tm, w1, hw1, hlt, rcall115, st, hdl, htk]
end Go.Ae.C3
namespace Go.Ae.C3
set_option linter.unusedSimpArgs false
set_option linter.unusedVariables false
abbrev resDe (L : List GDelta) (e : Int) : Res := ⟨.tup [.sl 0 0 0 [] 0 L.length, .int .i64 e], [⟨0, 3, false, true, rws GDelta.enc L⟩], []⟩
theorem nilE : rws GDelta.enc [] = [] := rfl
theorem dAll_le (a b u n : Nat) (ws : List ByteArray) (t : List UInt8) (f : Nat) (hb : a + b ≤ 7) (h : f + t.length ≤ 256) : (dAll a b u ws t f).length ≤ 2100 := by
  have h1 := dsI_le a b u ws t f (f / (a * u)) (nsN a u f t.length)
  have h2 : nsN a u f t.length ≤ 300 := by
    unfold nsN
    split
    · omega
    · have := Nat.div_le_self (f + t.length - 1) (a * u)
      generalize (f + t.length - 1) / (a * u) = x at *
      generalize f / (a * u) = y at *
      omega
  have h3 : nsN a u f t.length * (a + b) ≤ 300 * 7 := Nat.mul_le_mul h2 hb
  unfold dAll
  omega
set_option maxHeartbeats 16000000 in
theorem deltasOfs (K M U S : Int) (ws : List ByteArray) (hl : ws.length ≤ 1048576) (at_ : Int) (s : ByteArray) (hs : s.size ≤ 1048576) : ∃ L e, (∀ k, call code (k + 9) 59 [.agg [.int .i64 K, .int .i64 M, .int .i64 U, .int .i64 S, .rd true (rws encT ws)], .int .i64 at_, .str s] [] = some (resDe L e)) ∧
    (∀ k, call code (k + 9) 58 [.agg [.int .i64 K, .int .i64 M, .int .i64 U, .int .i64 S, .rd true (rws encT ws)], .int .i64 at_, .str s] [] = some (resDe L e)) ∧ L.length ≤ 2100 := by
  have o1 := fun k => wideOk k K M U S ws hl
  have o2 := fun k => l05OK k K M U S ws hl
  cases hw : wideB K M U S ws
  · rw [hw] at o1 o2
    exact ⟨[], 1, fun k => call_run rfl fn59 rfl (by simp [F59, rcall49, o1, resDe, nilE]), fun k => call_run rfl fn58 rfl (by simp [F58, rcall103, o2, resDe, nilE]), by simp⟩
  obtain ⟨a, b, u, n, rfl, rfl, rfl, rfl, h⟩ := wideB_inv hw
  rw [hw] at o1 o2
  obtain ⟨t, rfl⟩ : ∃ t, s = B t := ⟨s.data.toList, (B_eta s).symm⟩
  have hts : (B t).size = t.length := by show t.toArray.size = _; simp
  rw [hts] at hs
  have ha4 := h.a4
  have hb3 := h.b3
  have h256 := h.n256
  have i3 := fun k => between k at_ 0 n
  have wi := fun k => l05Within k a b u n (rws encT ws) at_ t h256 hs
  cases c3 : inB at_ 0 n
  · rw [c3] at i3 wi
    unfold wAV at wi
    exact ⟨[], 2, fun k => call_run rfl fn59 rfl (by simp [F59, rcall49, o1, rcall86, i3, resDe, nilE]), fun k => call_run rfl fn58 rfl (by simp [F58, rcall103, o2, rcall113, wi, resDe, nilE]), by simp⟩
  obtain ⟨f, rfl⟩ : ∃ f : Nat, at_ = f := ⟨at_.toNat, by simp [inB] at c3; omega⟩
  have hf : f ≤ n := by simp [inB] at c3; omega
  have w3 : IntKind.wrap .i64 ((n : Int) - (f : Int)) = (n : Int) - f := wrap64 ⟨by omega, by omega⟩
  by_cases hfm : f + t.length ≤ n
  rotate_left
  · have d1 : ((n : Int) - f < t.length) := by omega
    have d2 : ¬ ((t.length : Int) ≤ (n : Int) - f) := by omega
    rw [c3] at i3 wi
    unfold wAV at wi
    simp only [d2, decide_false, Bool.and_false] at wi
    exact ⟨[], 2, fun k => call_run rfl fn59 rfl (by simp [F59, rcall49, o1, rcall86, i3, w3, d1, hts, resDe, nilE]), fun k => call_run rfl fn58 rfl (by simp [F58, rcall103, o2, rcall113, wi, resDe, nilE]), by simp⟩
  have d2 : ((t.length : Int) ≤ (n : Int) - f) := by omega
  have hsp : ∀ k, call code (k + 9) 58 [.agg [.int .i64 a, .int .i64 b, .int .i64 u, .int .i64 n, .rd true (rws encT ws)], .int .i64 f, .str (B t)] [] = some (resDe (dAll a b u ws t f) 0) := fun k => by
    have de := fun k => l05Deltas k (f := f) (t := t) h hfm
    rw [c3] at wi
    unfold wAV at wi de
    simp only [d2, decide_true, Bool.and_true] at wi
    have k1 := tkE (enc := GDelta.enc) (l := dAll a b u ws t f) rfl
    have hrl := rws_len (enc := GDelta.enc) (dAll a b u ws t f)
    refine call_run rfl fn58 rfl ?_
    unfold resDe
    generalize rws GDelta.enc (dAll a b u ws t f) = D at *
    generalize (dAll a b u ws t f).length = dl at *
    simp [F58, rcall103, o2, rcall113, wi, rcall114, de, k1, hrl]
  refine ⟨dAll a b u ws t f, 0, fun k => ?_, hsp, dAll_le a b u n ws t f (by omega) (by omega)⟩
  by_cases ht : t = []
  · subst ht
    have hd : dAll a b u ws [] f = [] := by simp [dAll, nsN, dsI]
    rw [c3] at i3
    have d1 : ¬ ((n : Int) - f < 0) := by omega
    have hne : (B []).toList.isEmpty = true := by simp [B]
    rw [hd]
    exact call_run rfl fn59 rfl (by simp [F59, rcall49, o1, rcall86, i3, w3, d1, hts, hne, resDe, nilE])
  · exact deltasOfI k h hl hfm ht
set_option maxRecDepth 100000 in
set_option maxHeartbeats 64000000 in
theorem law13 (n : Nat) (K M U S : Int) (ws : List ByteArray) (b1 : ws.length ≤ 140737488351232) (b2 : ∀ x ∈ ws, x.size ≤ 140737488351232) (at_ : Int) (s : ByteArray) :
    call code (n + 11) 13 [.agg [.int .i64 K, .int .i64 M, .int .i64 U, .int .i64 S, .rd true (rws encT ws)], .int .i64 at_, .str s] [] = some ⟨.bool true, [], []⟩ := by
  refine call_run rfl fn13 rfl ?_
  by_cases hps : (1048576 : Int) < s.size
  · simp [F13, hps]
  have z1 := fun k => szWide k 1048576 K M U S ws (by omega) b1 b2
  generalize hw : ws.length + wsum ByteArray.size ws = wv at *
  cases g1 : decide (szV 1048576 wv < 0)
  rotate_left
  · obtain ⟨_, e1⟩ := szV_neg g1 (by omega)
    rw [e1] at z1
    simp [F13, hps, rcall52, z1]
  obtain ⟨a1, e1⟩ := szV_pos g1 (by omega)
  rw [e1] at z1 g1
  have a3 : ws.length ≤ 1048576 := by omega
  obtain ⟨L, e, hi, hs, hL⟩ := deltasOfs K M U S ws a3 at_ s (by omega)
  have t1 := fun k => toWide k K M U S ws a3
  have x1 := fun k => eqWide k K M U S ws (by omega)
  have x2 := fun k => eqDeltaS k L (by omega)
  have m1 := fun k lv E S' hlv hg => markWide k lv E K M U S ws S' 1 (by omega) hlv (by omega) hg
  have hh := fun k => heldDeltaS k L.length 1 (by omega) (by omega)
  have m2 := fun k lv E S' hlv hg => markDeltaS k lv E S' L 1 (by omega) (by omega) hlv hg
  have hp1 := fun (l : Heap) (S' : Nat) (hh : l.set S' (some ⟨0, 1, false, true, rws encT ws⟩) = l) => hpm_all (enc := encT) (sz := 1) (mk := mkT) (l := l) (S := S') (c := 1) (ws := ws) hh
  have hp2 := fun (l : Heap) (S' : Nat) (hh : l.set S' (some ⟨0, 3, false, true, rws GDelta.enc L⟩) = l) => hpm_all (enc := GDelta.enc) (sz := 3) (mk := GDelta.mkAt) (l := l) (S := S') (c := 1) (ws := L) hh
  have k1 := tkE (enc := encT) (l := ws) rfl
  have k2 := tkE (enc := GDelta.enc) (l := L) rfl
  have k4 := fun c n => tkE (enc := encT) (marks_len mkT c n)
  have k5 := fun c n => tkE (enc := GDelta.enc) (marks_len GDelta.mkAt c n)
  have hrl := rws_len (enc := encT) ws
  have hrl2 := rws_len (enc := GDelta.enc) L
  have d1 : decide (1 + (ws.length : Int) < 0) = false := by simp <;> omega
  have d2 : decide (1 + 3 * (L.length : Int) < 0) = false := by simp <;> omega
  simp only [resDe] at hi hs
  simp (maxSteps := 20000000) [F13, hps, rcall52, z1, g1, rcall54, t1, storeM, rcall58, hs, rcall59, hi, rcall60, x2, rcall43, x1, rcall44, m1, rcall61, m2, rcall62, hh, hp1, hp2, k1, k2, k4, k5, hrl, hrl2, d1, d2]
theorem lawDeltasOf (avs : List AV) (h : PFitsAll [(true, [.int .i64, .int .i64, .int .i64, .int .i64, .sl 16 [.str]]), (false, [.int .i64]), (false, [.str])] avs) : ∃ n bs e, call code n 13 avs [] = some ⟨.bool true, bs, e⟩ := by
  obtain ⟨v0, r, rfl, h0, h⟩ := h.cons_inv
  obtain ⟨v1, r, rfl, h1, h⟩ := h.cons_inv
  obtain ⟨v2, r, rfl, h2, h⟩ := h.cons_inv
  obtain rfl := h.nil_inv
  obtain ⟨cs, rfl, f0⟩ := h0.agg_inv
  obtain ⟨_, _, rfl, c0, f0⟩ := f0.cons_inv
  obtain ⟨_, _, rfl, c1, f0⟩ := f0.cons_inv
  obtain ⟨_, _, rfl, c2, f0⟩ := f0.cons_inv
  obtain ⟨_, _, rfl, c3, f0⟩ := f0.cons_inv
  obtain ⟨_, _, rfl, c4, f0⟩ := f0.cons_inv
  obtain rfl := f0.nil_inv
  obtain ⟨a, rfl, _⟩ := c0.i64_inv
  obtain ⟨b, rfl, _⟩ := c1.i64_inv
  obtain ⟨u, rfl, _⟩ := c2.i64_inv
  obtain ⟨s, rfl, _⟩ := c3.i64_inv
  obtain ⟨xs, rfl, hl, hr⟩ := c4.sl_inv
  obtain ⟨ws, rfl, hz⟩ := fitStringS hr
  rw [rws_len] at hl
  obtain ⟨fr, rfl, _⟩ := h1.one_inv.i64_inv
  obtain ⟨t, rfl, _⟩ := h2.one_inv.str_inv
  exact ⟨_, _, _, law13 0 a b u s ws (by omega) hz fr t⟩
end Go.Ae.C3
