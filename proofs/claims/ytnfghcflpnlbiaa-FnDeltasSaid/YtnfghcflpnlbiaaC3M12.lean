/- Shards drawn: the code, the places, what is on hand. -/
import Derived.Test.YtnfghcflpnlbiaaC3M11
import Derived.Test.YtnfghcflpnlbiaaC3M9
namespace Go.Ae.C3
set_option linter.unusedSimpArgs false
set_option linter.unusedVariables false
theorem l04Draw (l : List UInt8) (p : Nat) (sd : Int) (hp : p ≤ 1000) (k lv : Nat) (E : List Heap) (S : Nat) (hlv : lv < E.length) (hg : (hat E lv).get S = some (some (srcB l p sd))) :
    call code (k + 3) 83 [.ptr (lv + 1) S 0 [] 0 0] E = some ⟨.agg [.int .i64 (1 + nxV l p sd % 4 : Nat), .int .i64 (nxV l (p + 1) (nxS l p sd) % 4 : Nat)], [], E.modify lv fun h => h.set S (some (srcB l (p + 1 + 1) (nxS l (p + 1) (nxS l p sd))))⟩ := by
  refine call_run rfl fn83 rfl ?_
  have x1 := fun k l0 => pick l p 4 sd (by omega) (by omega) k (lv + 1) (l0 :: E) S (by simp; omega) (by simpa using hg)
  have x2 := fun k l0 => pick l (p + 1) 4 (nxS l p sd) (by omega) (by omega) k (lv + 1) (l0 :: E.modify lv fun h => h.set S (some (srcB l (p + 1) (nxS l p sd)))) S (by simp; exact hlv) (by rw [hat_cons, hat_modify hlv, get_set, if_pos rfl])
  have c4 : ((4 : Nat) : Int) = 4 := rfl
  rw [c4] at x1 x2
  have hr : nxV l p sd % 4 < 4 := Nat.mod_lt _ (by omega)
  generalize nxV l p sd % 4 = r at *
  generalize nxV l (p + 1) (nxS l p sd) % 4 = r2 at *
  have e1 : IntKind.wrap .i64 (1 + (r : Int)) = ((1 + r : Nat) : Int) := by rw [wrap64 ⟨by omega, by omega⟩]; omega
  generalize 1 + r = r1 at *
  simp [F83, rcall134, x1, x2, e1, modify_modify', set_set_same]
theorem a8Code (l : List UInt8) : ∃ a b : Nat, (1 ≤ a ∧ a ≤ 4) ∧ b ≤ 3 ∧ ∀ k, call code (k + 4) 30 [.rd true (rws encU l)] [] = some ⟨.agg [.int .i64 a, .int .i64 b], [], []⟩ := by
  have h1 := fun k => l00From k l
  have h2 := fun k lv E S hlv hg => l04Draw l 0 0 (by omega) k lv E S hlv hg
  have r1 : nxV l 0 0 % 4 < 4 := Nat.mod_lt _ (by omega)
  have r2 : nxV l (0 + 1) (nxS l 0 0) % 4 < 4 := Nat.mod_lt _ (by omega)
  refine ⟨1 + nxV l 0 0 % 4, nxV l (0 + 1) (nxS l 0 0) % 4, by omega, by omega, fun k => ?_⟩
  refine call_run rfl fn30 rfl ?_
  generalize nxS l (0 + 1) (nxS l 0 0) = s2 at *
  generalize nxV l (0 + 1) (nxS l 0 0) % 4 = y at *
  generalize 1 + nxV l 0 0 % 4 = x at *
  have c0 : ((0 : Nat) : Int) = 0 := rfl
  simp only [srcB, c0] at h1 h2
  simp [F30, rcall82, h1, rcall83, h2]
theorem subs_inc : ∀ (n : Nat) (s : List Nat), s ∈ subs n → ∀ i j (hi : i < j) (hj : j < s.length), s[i] < s[j]
  | 0, s, h, i, j, hi, hj => by simp [subs] at h; subst h; simp at hj
  | n + 1, s, h, i, j, hi, hj => by
    unfold subs at h
    rcases List.mem_append.1 h with h | h
    · exact subs_inc n s h i j hi hj
    · obtain ⟨t, ht, rfl⟩ := List.mem_map.1 h
      by_cases hjt : j < t.length
      · rw [List.getElem_append_left (by omega), List.getElem_append_left hjt]
        exact subs_inc n t ht i j hi hjt
      · have : j = t.length := by simp at hj; omega
        subst this
        rw [List.getElem_append_left (by omega), List.getElem_append_right (Nat.le_refl _)]
        simp only [Nat.sub_self, List.getElem_cons_zero]
        exact subs_lt n ht _ (List.getElem_mem _)
/-- The shards at some places. -/
def hvL (A : List (List UInt8)) (ps : List Nat) : List GShard := ps.map fun (p : Nat) => ⟨(p : Int), B (A.getD p [])⟩
theorem hvL_len (A : List (List UInt8)) (ps : List Nat) : (hvL A ps).length = ps.length := by simp [hvL]
theorem hvL_take (A : List (List UInt8)) (ps : List Nat) (n : Nat) : (hvL A ps).take n = hvL A (ps.take n) := by simp [hvL, List.map_take]
theorem hvL_get {A : List (List UInt8)} {ps : List Nat} {i : Nat} (h : i < (hvL A ps).length) : (hvL A ps)[i] = ⟨((ps[i]'(by rwa [hvL_len] at h) : Nat) : Int), B (A.getD (ps[i]'(by rwa [hvL_len] at h)) [])⟩ := by simp [hvL]
theorem hvL_haveL {a b q : Nat} {A : List (List UInt8)} {ps : List Nat} (hinc : ∀ i j (hi : i < j) (hj : j < ps.length), ps[i] < ps[j]) (hlt : ∀ p ∈ ps, p < a + b) (hA : ∀ p ∈ ps, (A.getD p []).length = q) : haveL a b q (hvL A ps) = true := by
  refine haveL_true fun i hi => ?_
  have hi' : i < ps.length := by rwa [hvL_len] at hi
  have h1 := hlt _ (List.getElem_mem hi')
  have h2 := hA _ (List.getElem_mem hi')
  have hx : shAt (hvL A ps) i = ⟨((ps[i] : Nat) : Int), B (A.getD ps[i] [])⟩ := by
    rw [shAt, List.getD_eq_getElem?_getD, List.getElem?_eq_getElem hi, Option.getD_some, hvL_get hi]
  unfold hgood
  rw [hx]
  simp only [Bool.and_eq_true]
  refine ⟨⟨by simp [inB]; omega, ?_⟩, ?_⟩
  · by_cases h0 : i = 0
    · subst h0; simp
    · have hi1 : i - 1 < (hvL A ps).length := by omega
      have hi1' : i - 1 < ps.length := by omega
      have hy : shAt (hvL A ps) (i - 1) = ⟨((ps[i - 1] : Nat) : Int), B (A.getD ps[i - 1] [])⟩ := by
        rw [shAt, List.getD_eq_getElem?_getD, List.getElem?_eq_getElem hi1, Option.getD_some, hvL_get hi1]
      rw [hy]
      have := hinc (i - 1) i (by omega) hi'
      simp; right; omega
  · generalize A.getD ps[i] [] = t at *
    simp [B_size, h2]
theorem hvL_bytes {a b q : Nat} {A : List (List UInt8)} {ps : List Nat} : ∀ i (hi : i < (hvL A ps).length), (hvL A ps)[i].Bytes = B (A.getD (hvL A ps)[i].Pos.toNat []) := fun i hi => by
  rw [hvL_get hi]; simp
theorem shs_all {a b : Nat} {l : List UInt8} (h1 : 1 ≤ a) : ∀ x ∈ shs a b l, x.length = psz a l.length := by
  unfold shs
  exact pcs_all (dat_all h1) (by simp [dat])
theorem hv_next {A : List (List UInt8)} {ps : List Nat} {i : Nat} (h : i < ps.length) : rws GShard.enc ((hvL A ps).take i) ++ [[.int .i64 ((ps[i] : Nat) : Int), .str (B (A.getD ps[i] []))]] = rws GShard.enc ((hvL A ps).take (i + 1)) := by
  rw [List.take_succ_eq_append_getElem (by rw [hvL_len]; exact h), rws_app, hvL_get]; rfl
end Go.Ae.C3
namespace Go.Ae.C3
set_option linter.unusedSimpArgs false
set_option linter.unusedVariables false
theorem a8Mix8 (k : Nat) (l : List UInt8) (hl : l.length ≤ 1048576) : call code (k + 1) 66 [.int .i64 8, .rd true (rws encU l)] [] = some ⟨.sl 0 0 0 [] 0 (l.length + 1), [⟨0, 1, false, true, rws encU (8 :: l)⟩], []⟩ := by
  refine call_run rfl fn66 rfl ?_
  have h7 : rws encU (8 :: l) = [.int .u8 8] :: rws encU l := rfl
  have hrl := rws_len (enc := encU) l
  have hall : ∀ x ∈ rws encU l, x.length = 1 := by
    intro x hx
    simp only [rws, List.mem_map] at hx
    obtain ⟨a, _, rfl⟩ := hx
    rfl
  rw [h7]
  generalize rws encU l = R at *
  simp [F66, evalW, source, hrl]
  exact ⟨hall, by omega, by omega, by decide⟩
def wideL (l : List UInt8) : List UInt8 := (wd l 0 40 0).1 ++ (wd (7 :: l) 0 40 0).1 ++ (wd (8 :: l) 0 40 0).1
theorem wideL_len (l : List UInt8) : (wideL l).length ≤ 120 := by
  have l1 := wd_len l 0 40 0 (by omega)
  have l2 := wd_len (7 :: l) 0 40 0 (by omega)
  have l3 := wd_len (8 :: l) 0 40 0 (by omega)
  simp only [wideL, List.length_append]; omega
theorem a8Wide (k : Nat) (l : List UInt8) (hl : l.length ≤ 1048576) : call code (k + 5) 46 [.rd true (rws encU l)] [] = some ⟨.str (B (wideL l)), [], []⟩ := by
  refine call_run rfl fn46 rfl ?_
  have h1 := fun k => a8Word k l
  have h2 := fun k => a8Word k (7 :: l)
  have h4 := fun k => a8Word k (8 :: l)
  have h3 := fun k => a8Mix k l hl
  have h5 := fun k => a8Mix8 k l hl
  have hwl := wideL_len l
  have ht : (rws encU (7 :: l)).take (l.length + 1) = rws encU (7 :: l) := List.take_of_length_le (by rw [rws_len]; simp)
  have hrl : (rws encU (7 :: l)).length = l.length + 1 := by rw [rws_len]; simp
  have ht8 : (rws encU (8 :: l)).take (l.length + 1) = rws encU (8 :: l) := List.take_of_length_le (by rw [rws_len]; simp)
  have hrl8 : (rws encU (8 :: l)).length = l.length + 1 := by rw [rws_len]; simp
  unfold wideL at hwl ⊢
  generalize (wd l 0 40 0).1 = w1 at *
  generalize (wd (7 :: l) 0 40 0).1 = w2 at *
  generalize (wd (8 :: l) 0 40 0).1 = w3 at *
  generalize rws encU (7 :: l) = R at *
  generalize rws encU (8 :: l) = R8 at *
  have happ1 := B_app w1 w2
  have happ := B_app (w1 ++ w2) w3
  have hb1 : (w1 ++ w2).length ≤ 120 := by rw [List.length_append] at hwl; omega
  have hb2 : w1.length + w2.length ≤ 120 := by rw [List.length_append] at hb1; omega
  generalize w1 ++ w2 = w12 at *
  generalize hw : w12 ++ w3 = w at *
  have hb3 : w12.length + w3.length ≤ 120 := by rw [← hw, List.length_append] at hwl; omega
  have hc' : ¬ (256 : Int) < (w.length : Int) := by omega
  have hc : ¬ 256 < w.length := by omega
  have hcut : (B w).extract 0 w.length = B w := by rw [B_cut]; simp
  simp [F46, rcall65, h1, rcall66, h3, h5, ht, hrl, ht8, hrl8, h2, h4, happ1, happ, hc', hc, hcut]
  omega
theorem wideWholeI (k : Nat) {a b u n : Nat} {ws : List ByteArray} (h : Wide a b u n ws) (hl : ws.length ≤ 1048576) : call code (k + 8) 50 [.agg [.int .i64 a, .int .i64 b, .int .i64 u, .int .i64 n, .rd true (rws encT ws)]] [] = some ⟨.bool (sameB ws ((wid a b u (rdB a u ws 0 n)).map B)), [], []⟩ := by
  have o1 := fun k => wideOk k a b u n ws hl
  rw [h.ok] at o1
  have bd := fun k R => h.cols.body k b 0 n (by omega) R
  have hlr := rdB_len a u ws 0 n
  have hu : 1 ≤ u ∧ u ≤ 8 := ⟨h.u1, h.u8⟩
  have im := fun k => wideOf k a b u (rdB a u ws 0 n) ⟨h.a1, h.a4⟩ h.b3 hu (by rw [hlr]; exact h.n256)
  have hwl := wid_len a b u (rdB a u ws 0 n)
  rw [hlr] at im
  generalize rdB a u ws 0 n = bs at *
  generalize hC : wid a b u bs = C at *
  have hCl : (C.map B).length = ws.length := by rw [List.length_map, hwl, h.len]
  have eq := fun k => equalS k ws (C.map B) hl hCl
  have hr : rws encT (C.map B) = rowsS C := rfl
  have hsl := rowsS_len C
  rw [hr] at eq
  have htk : (rowsS C).take C.length = rowsS C := List.take_of_length_le (by omega)
  simp only [resW] at im
  generalize sameB ws (C.map B) = r at *
  generalize rowsS C = R at *
  generalize C.length = cl at *
  have c0 : ((0 : Nat) : Int) = 0 := rfl
  simp only [c0] at bd
  refine call_run rfl fn50 rfl ?_
  simp [F50, rcall49, o1, rcall95, bd, rcall90, im, rcall100, eq, hsl, htk]
theorem wideOfI (k : Nat) (a b u : Nat) (l : List UInt8) (ha : 1 ≤ a ∧ a ≤ 4) (hb : b ≤ 3) (hu : 1 ≤ u ∧ u ≤ 8) (hl : l.length ≤ 256) : call code (k + 8) 42 [.agg [.int .i64 a, .int .i64 b], .int .i64 u, .str (B l)] [] = some (resWE a b u l.length ((wid a b u l).map B) 0) := by
  have i1 := fun k => codeOk k a b
  have i2 := fun k => between k u 1 8
  have c1 : codeB a b = true := by simp [codeB, inB]; omega
  have c2 : inB (u : Int) 1 8 = true := by simp [inB]; omega
  have c3 : decide ((256 : Int) < ((B l).size : Int)) = false := by rw [bsz]; simp; omega
  have c3' : ¬ (256 : Int) < ((B l).size : Int) := by rw [bsz]; omega
  have c4 : ¬ 256 < l.length := by omega
  have c5 : ¬ (256 : Int) < (l.length : Int) := by omega
  rw [c1] at i1
  rw [c2] at i2
  have im := fun k => wideOf k a b u l ha hb hu hl
  have hw := wid_len a b u l
  have hsl := rowsS_len (wid a b u l)
  simp only [resW] at im
  generalize hC : wid a b u l = C at *
  have hr : rws encT (C.map B) = rowsS C := rfl
  have hCm : (C.map B).length = C.length := by simp
  refine call_run rfl fn42 rfl ?_
  unfold resWE
  rw [hr, hCm]
  generalize rowsS C = R at *
  generalize C.length = cl at *
  simp [F42, rcall84, i1, rcall86, i2, c3, c3', c4, c5, rcall90, im, storeM, hsl]
end Go.Ae.C3
