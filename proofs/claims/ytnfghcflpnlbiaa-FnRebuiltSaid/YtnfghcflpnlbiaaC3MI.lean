/- The law FnRebuilt. -/
import Derived.Test.YtnfghcflpnlbiaaC3MH
import Derived.Test.YtnfghcflpnlbiaaC3MG
namespace Go.Ae.C3
set_option linter.unusedSimpArgs false
set_option linter.unusedVariables false
theorem range_inc (n : Nat) : ∀ i j (hi : i < j) (hj : j < (List.range n).length), (List.range n)[i] < (List.range n)[j] := fun i j hi hj => by simp; exact hi
theorem castL_range (n : Nat) : (List.range n).length = n := List.length_range
/-- The shards at all places. -/
def fullL (A : List (List UInt8)) (n : Nat) : List GShard := hvL A (List.range n)
theorem fullL_len (A : List (List UInt8)) (n : Nat) : (fullL A n).length = n := by simp [fullL, hvL]
theorem full_next (A : List (List UInt8)) (i : Nat) : rws GShard.enc (fullL A i) ++ [[.int .i64 (i : Int), .str (B (A.getD i []))]] = rws GShard.enc (fullL A (i + 1)) := by
  simp [fullL, hvL, List.range_succ, rws_app]; rfl
theorem fullL_get {A : List (List UInt8)} {n i : Nat} (h : i < (fullL A n).length) : (fullL A n)[i] = ⟨(i : Int), B (A.getD i [])⟩ := by simp [fullL, hvL]
theorem fullL_mem {A : List (List UInt8)} {n : Nat} {s : GShard} (h : s ∈ fullL A n) : ∃ i : Nat, i < n ∧ s = ⟨(i : Int), B (A.getD i [])⟩ := by
  simp only [fullL, hvL, List.mem_map, List.mem_range] at h
  obtain ⟨i, hi, rfl⟩ := h
  exact ⟨i, hi, rfl⟩
theorem fullL_own {A : List (List UInt8)} {n : Nat} : ∀ s ∈ fullL A n, s.Bytes = B (A.getD s.Pos.toNat []) := fun s hs => by
  obtain ⟨i, _, rfl⟩ := fullL_mem hs
  simp
/-- All on hand; and with one turned. -/
theorem full_have {a b : Nat} {l : List UInt8} (h1 : 1 ≤ a ∧ a ≤ 4) (h2 : b ≤ 3) : haveL a b (psz a l.length) (fullL (shs a b l) (a + b)) = true :=
  hv_all h1 h2 (range_inc _) fun p hp => List.mem_range.1 hp
theorem turned_have {a b : Nat} {l : List UInt8} (h1 : 1 ≤ a ∧ a ≤ 4) (h2 : b ≤ 3) {k : Nat} (hk : k < a + b) {t : List UInt8} (ht : t.length = psz a l.length) : haveL a b (psz a l.length) ((fullL (shs a b l) (a + b)).set k ⟨(k : Int), B t⟩) = true := by
  have : (fullL (shs a b l) (a + b)).set k ⟨(k : Int), B t⟩ = hvL ((shs a b l).set k t) (List.range (a + b)) := by
    apply List.ext_getElem (by simp [fullL, hvL])
    intro i h3 h4
    have hi : i < a + b := by simpa [hvL] using h4
    have hsl := shs_len a b l
    by_cases hik : i = k
    · subst hik
      simp [hvL, List.getD_eq_getElem?_getD, List.getElem?_set, hsl, hi]
    · simp [fullL, hvL, List.getElem_set, List.getD_eq_getElem?_getD, List.getElem?_set, Ne.symm hik]
  rw [this]
  refine hvL_haveL (range_inc _) (fun p hp => List.mem_range.1 hp) fun p hp => ?_
  have hp := List.mem_range.1 hp
  have hl : p < (shs a b l).length := by rw [shs_len]; exact hp
  by_cases hik : k = p
  · subst hik
    simp [List.getD_eq_getElem?_getD, List.getElem?_set, hl, ht]
  · simp [List.getD_eq_getElem?_getD, List.getElem?_set, hik, List.getElem?_eq_getElem hl]
    exact shs_all h1.1 _ (List.getElem_mem hl)
set_option maxRecDepth 100000 in
set_option maxHeartbeats 64000000 in
theorem law7 (n : Nat) (l : List UInt8) : call code (n + 12) 7 [.rd true (rws encU l)] [] = some ⟨.bool true, [], []⟩ := by
  refine call_run rfl fn7 rfl ?_
  by_cases hbig : 1048576 < l.length
  · have hb' : decide ((1048576 : Int) < (l.length : Int)) = true := by simp; omega
    simp [F7, hb']
  have hb' : decide ((1048576 : Int) < (l.length : Int)) = false := by simp; omega
  have hl : l.length ≤ 1048576 := by omega
  obtain ⟨a, b, q1, q3, hc⟩ := a8Code l
  have b0 := fun k => a8Body k l hl
  have bl := bodyL_len l
  generalize bodyL l = w at *
  have sh := fun n => shardsOfI n a b w bl q1 q3
  have e3 : IntKind.wrap .i64 ((a : Int) + (b : Int)) = ((a + b : Nat) : Int) := by rw [wrap64 ⟨by omega, by omega⟩]; omega
  have ps0 := fun k => pieceSizeI k a b w.length q1 q3 bl
  have hpz := psz_le (n := w.length) q1.1
  have pl := fun k => a8Places k l a (a + b) hl (by omega) (by omega)
  have hps := plc_subs l a (a + b) (a + b)
  have hpn := subs_lt _ hps
  have hpk := plc_all l a (a + b) (by omega)
  have hinc := subs_inc _ _ hps
  generalize plc l a (a + b) (a + b) = ps at *
  have hAl := shs_len a b w
  have ah := fun k => a8Have k (shs a b w) ps (fun p hp => by rw [hAl]; exact hpn p hp) (by omega) (by omega)
  have hv := hv_all (l := w) q1 q3 hinc hpn
  have hvl := hvL_len (shs a b w) ps
  have hB := haveB_of q1 q3 bl hv
  have H := haveF q1 q3 hv
  have rb := fun k (i : Nat) (hi : i < a + b) => (rebuildGood (p := i) hB H bl (by omega) (by omega) hi).1 k
  rw [anewD_orig H (by omega) (hvL_bytes (a := a) (b := b) (q := 0))] at rb
  have sa := fun k (i : Nat) (hi : i < a + b) => shardAtI k a b w i q1 q3 bl hi
  have hsl : ∀ i, i < a + b → ((shs a b w).getD i []).length = psz a w.length := fun i hi => by
    have hl : i < (shs a b w).length := by rw [shs_len]; exact hi
    rw [List.getD_eq_getElem?_getD, List.getElem?_eq_getElem hl]
    exact shs_all q1.1 _ (List.getElem_mem hl)
  -- all of them
  have fh := full_have (l := w) q1 q3
  have fB := haveB_of q1 q3 bl fh
  have fH := haveF q1 q3 fh
  have fln := fullL_len (shs a b w) (a + b)
  have fan := anewD_orig fH (by omega) (fun i hi => by rw [fullL_get hi]; simp)
  have od := fun k => (oddGood fB fH bl (by omega) (by omega)).1 k
  rw [oddL_nil fan fullL_own] at od
  -- one of them turned
  have hturn : ∀ t : List UInt8, t.length = psz a w.length → ∀ p, a ≤ p → p < a + b → t ≠ (shs a b w).getD p [] → ∀ k, call code (k + 9) 25 [.agg [.int .i64 a, .int .i64 b], .int .i64 w.length, .rd true (rws GShard.enc ((fullL (shs a b w) (a + b)).set p ⟨(p : Int), B t⟩))] [] = some (resZ [(p : Int)] 0) := fun t ht p hp1 hp2 hne k => by
    have th := turned_have (l := w) q1 q3 hp2 ht
    have tB := haveB_of q1 q3 bl th
    have tH := haveF q1 q3 th
    have tl : ((fullL (shs a b w) (a + b)).set p ⟨(p : Int), B t⟩).length = a + b := by rw [List.length_set, fln]
    have := (oddGood tB tH bl (by omega) (by omega)).1 k
    rw [oddL_one fan fullL_own hp1 (by omega) hne] at this
    exact this
  have hle : (((a - 1 : Nat)) : Int) ≤ (ps.length : Int) := by omega
  have hget : ∀ i, i < a + b → ∀ h : i < (rowsS (shs a b w)).length, (rowsS (shs a b w))[i]'h = [.str (B ((shs a b w).getD i []))] := fun i hi h => rowsS_at (by omega) h
  have tA : (rowsS (shs a b w)).take (a + b) = rowsS (shs a b w) := List.take_of_length_le (by rw [rowsS_len]; omega)
  have hAr : (rowsS (shs a b w)).length = a + b := by rw [rowsS_len]; exact hAl
  generalize hvL (shs a b w) ps = HV at *
  have tS := tkH (enc := GShard.enc) (l := HV) hvl
  have tP : (rowsZ (castL ps)).take a = rowsZ (castL ps) := List.take_of_length_le (by rw [rowsZ_len, castL_len]; omega)
  have hPr : (rowsZ (castL ps)).length = a := by rw [rowsZ_len, castL_len, hpk]
  have hSr : (rws GShard.enc HV).length = a := by rw [rws_len, hvl, hpk]
  rw [hpk] at pl ah tS
  simp only [resT, resZ] at rb od hturn
  have fnx := full_next (shs a b w)
  have frl : ∀ i, (rws GShard.enc (fullL (shs a b w) i)).length = i := fun i => by rw [rws_len, fullL_len]
  clear hB H hv hvl hinc hpn hps hpk hAl fB fH fan fh
  generalize psz a w.length = q at *
  generalize shs a b w = AL at *
  generalize rowsS AL = A at *
  generalize rowsZ (castL ps) = P at *
  generalize rws GShard.enc HV = HR at *
  generalize hab : a + b = ab at *
  have hz : ∀ r ∈ HR, r.length = 2 ∨ True := fun _ _ => .inr trivial
  simp (maxSteps := 20000000) [F7, hb', rcall30, hc, rcall31, b0, rcall32, sh, rcall37, ps0, e3, rcall35, pl, tA, hAr, tP, hPr, rcall34, ah, tS, hSr]
  refine RunC_loop (fun i : Nat => ⟨tm 214 [(0, .rd true (rws encU l)), (3, .ptr 0 197120 0 [] 0 0), (4, .str (B w)), (5, .sl 0 328192 0 [] 0 ab), (7, .int .i64 q), (9, .sl 0 461312 0 [] 0 a), (11, .int .i64 i)], [(197120, some ⟨0, 2, true, false, [[.int .i64 a, .int .i64 b]]⟩), (328192, some ⟨0, 1, false, true, A⟩), (461056, some ⟨0, 1, false, true, P⟩), (461312, some ⟨0, 2, false, true, HR⟩)], []⟩)
    (fun i => i ≤ ab) (fun i => ab - i) 0 (Nat.zero_le _) (by simp; omega) (by simp [tm]) fun i hi _ => ?_
  by_cases hlt : i < ab
  · have hs := idx_succ' hlt (by omega)
    have hrb := fun k => rb k i hlt
    have hsa := fun k => sa k i hlt
    have hg := hget i hlt
    have hq := hsl i hlt
    have hqB : (B (AL.getD i [])).size = q := by rw [B_size]; exact hq
    generalize B (AL.getD i []) = T at *
    simp (maxSteps := 20000000) [tm, hlt, hs, e3, rcall23, hrb, rcall38, hsa, hAr, hg, hqB, tS, hSr]
    exact ⟨i + 1, by omega, by omega, by simp⟩
  have : ab = i := by omega
  subst this
  simp (maxSteps := 20000000) [tm, e3]
  refine RunC_loop (fun i : Nat => ⟨tm 214 [(0, .rd true (rws encU l)), (3, .ptr 0 197120 0 [] 0 0), (4, .str (B w)), (5, .sl 0 328192 0 [] 0 ab), (7, .int .i64 q), (16, .sl 0 1114112 0 [] 0 i), (17, .int .i64 i)], [(197120, some ⟨0, 2, true, false, [[.int .i64 a, .int .i64 b]]⟩), (328192, some ⟨0, 1, false, true, A⟩), (461056, some ⟨0, 1, false, true, P⟩), (461312, some ⟨0, 2, false, true, HR⟩), (1114112, some ⟨0, 2, false, true, rws GShard.enc (fullL AL i)⟩)], []⟩)
    (fun i => i ≤ ab) (fun i => ab - i) 0 (Nat.zero_le _) (by simp; omega) (by simp [tm, fullL, hvL]) fun i hi _ => ?_
  by_cases hlt : i < ab
  · have hs := idx_succ' hlt (by omega)
    have hg := hget i hlt
    have happ := fnx i
    have hrl := frl i
    generalize B (AL.getD i []) = T at *
    generalize hR' : rws GShard.enc (fullL AL (i + 1)) = R' at *
    generalize rws GShard.enc (fullL AL i) = R at *
    simp (maxSteps := 20000000) [tm, hlt, hs, e3, hAr, hg, evalW, source, hrl, happ]
    exact ⟨⟨by omega, by omega⟩, i + 1, by omega, by omega, by simp [hR']⟩
  have : ab = i := by omega
  subst this
  have hrl := frl ab
  have tF : (rws GShard.enc (fullL AL ab)).take ab = rws GShard.enc (fullL AL ab) := List.take_of_length_le (by omega)
  have hnil : rws encI ([] : List Int) = [] := rfl
  simp only [List.length_nil, hnil] at od
  by_cases hb0 : b = 0
  · subst hb0
    have e6 : IntKind.wrap .i64 (a : Int) = (ab : Nat) := by rw [wrap64 ⟨by omega, by omega⟩]; omega
    have z0 : ((0 : Nat) : Int) = 0 := rfl
    rw [z0] at od
    simp (maxSteps := 20000000) [tm, e3, rcall25, od, tF, hrl, e6]
  have hbb : ((b : Int) == 0) = false := by simp; omega
  by_cases hq0 : q = 0
  · subst hq0
    simp (maxSteps := 20000000) [tm, e3, rcall25, od, tF, hrl, hb0, hbb]
  have hqq : ((q : Int) == 0) = false := by simp; omega
  have a1 : ∀ k, call code (k + 1) 33 [.rd true (rws encU l), .int .i64 4, .int .i64 b] [] = some ⟨.int .i64 (aAt l 4 b : Nat), [], []⟩ := fun k => a8At k l 4 b hl (by omega) (by omega)
  have q4 := aAt_lt l 4 b (by omega)
  generalize aAt l 4 b = m at *
  have e5 : IntKind.wrap .i64 ((a : Int) + (m : Int)) = ((a + m : Nat) : Int) := by rw [wrap64 ⟨by omega, by omega⟩]; omega
  have hp1 : a ≤ a + m := by omega
  have hp2 : a + m < ab := by omega
  generalize a + m = p at *
  have hlp := hsl p hp2
  obtain ⟨t, ht1, ht2, ht3⟩ := a8Turn (AL.getD p []) l (by omega) (by omega) hl
  have ht := hturn t (by omega) p hp1 hp2 ht2
  have hset : (rws GShard.enc (fullL AL ab)).set p [.int .i64 p, .str (B t)] = rws GShard.enc ((fullL AL ab).set p ⟨(p : Int), B t⟩) := by
    show (rws GShard.enc (fullL AL ab)).set p (GShard.enc ⟨(p : Int), B t⟩) = _
    rw [rws_set]
  have hFg : ∀ h : p < (rws GShard.enc (fullL AL ab)).length, (rws GShard.enc (fullL AL ab))[p]'h = [.int .i64 p, .str (B (AL.getD p []))] := fun h => by simp [fullL_get]; rfl
  have hrl2 : (rws GShard.enc ((fullL AL ab).set p ⟨(p : Int), B t⟩)).length = ab := by rw [rws_len, List.length_set]; omega
  have tF2 : (rws GShard.enc ((fullL AL ab).set p ⟨(p : Int), B t⟩)).take ab = rws GShard.enc ((fullL AL ab).set p ⟨(p : Int), B t⟩) := List.take_of_length_le (by omega)
  have hone : rws encI [(p : Int)] = [[.int .i64 (p : Int)]] := rfl
  have same : ∀ k, call code (k + 1) 40 [.rd true [[.int .i64 (p : Int)]], .rd true [[.int .i64 (p : Int)]]] [] = some ⟨.bool true, [], []⟩ := fun k => a8Same1 k p []
  simp only [hone] at ht
  generalize B (AL.getD p []) = T at *
  generalize rws GShard.enc ((fullL AL ab).set p ⟨(p : Int), B t⟩) = FR2 at *
  generalize rws GShard.enc (fullL AL ab) = FR at *
  simp (maxSteps := 20000000) [tm, e3, rcall25, od, tF, hrl, hb0, hq0, hbb, hqq, rcall33, a1, e5, hp2, hFg, rcall39, ht3, hset, tF2, hrl2, ht, rcall40, same, evalW]
theorem lawRebuilt (avs : List AV) (h : PFitsAll [(false, [.sl 1 [.int .u8]])] avs) : ∃ n bs e, call code n 7 avs [] = some ⟨.bool true, bs, e⟩ := by
  obtain ⟨v0, r, rfl, h0, h⟩ := h.cons_inv
  obtain rfl := h.nil_inv
  obtain ⟨xs, rfl, hl, hr⟩ := h0.one_inv.sl_inv
  obtain ⟨ws, rfl⟩ := fitU hr
  exact ⟨_, _, _, law7 0 ws⟩
end Go.Ae.C3
