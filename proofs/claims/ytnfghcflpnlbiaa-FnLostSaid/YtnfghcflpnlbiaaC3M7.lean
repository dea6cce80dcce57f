/- l03Swap, l03Clear: the steps of the specification's inverse. -/
import Derived.Test.YtnfghcflpnlbiaaC3M6
namespace Go.Ae.C3
set_option linter.unusedSimpArgs false
set_option linter.unusedVariables false
def swp (M : Mx) (a b : Nat) : Mx := fun i j => if i = a then M b j else if i = b then M a j else M i j
def psw (M : Mx) (a b q : Nat) : Mx := fun i j => if j < q then swp M a b i j else M i j
def hswp (M : Mx) (a b q : Nat) : Mx := fun i j => if i = a ∧ j = q then M b q else psw M a b q i j
theorem psw_zero (M : Mx) (a b : Nat) : psw M a b 0 = M := by funext i j; simp [psw]
theorem psw_all {w : Nat} (M : Mx) (a b : Nat) : rowsM w (psw M a b w) = rowsM w (swp M a b) := rowsM_congr fun i j _ hj => by simp [psw, hj]
theorem psw_next {w : Nat} {M : Mx} {a b q : Nat} (ha : a < w) (hb : b < w) (hq : q < w) :
    ((rowsM w (psw M a b q)).set (a * w + q) [.int .i64 ((M b q : Nat) : Int)]).set (b * w + q) [.int .i64 ((M a q : Nat) : Int)] = rowsM w (psw M a b (q + 1)) := by
  rw [rowsM_set ha hq, rowsM_set hb hq]
  apply rowsM_congr
  intro i j hi hj
  unfold psw swp
  by_cases h2 : j = q
  · subst h2
    by_cases h1 : i = b
    · subst h1
      by_cases h3 : i = a
      · subst h3; simp
      · simp [h3]
    · by_cases h3 : i = a
      · subst h3; simp [h1]
      · simp [h1, h3]
  · by_cases h3 : j < q
    · simp [h2, h3, show j < q + 1 by omega]
    · simp [h2, h3, show ¬ j < q + 1 by omega]
set_option maxHeartbeats 4000000 in
theorem swap (k : Nat) (l : Heap) (S w a b : Nat) (M : Mx) (hw : 1 ≤ w ∧ w ≤ 8) (ha : a < w) (hb : b < w) (hl : l.get S = some (some (mb w M))) :
    call code (k + 1) 169 [.sl 1 S 0 [] 0 (w * w), .int .i64 w, .int .i64 a, .int .i64 b] [l] = some ⟨.tup [], [], [hp l S (fun q => mb w (psw M a b q)) w]⟩ := by
  refine call_run rfl fn169 rfl ?_
  simp [F169, hl, mb]
  have h64 : w * w ≤ 8 * 8 := Nat.mul_le_mul hw.2 hw.2
  refine RunC_loop (fun q : Nat => ⟨tm 46 [(0, .sl 1 S 0 [] 0 (w * w)), (1, .int .i64 w), (2, .int .i64 a), (3, .int .i64 b), (8, .int .i64 q)], [], [hp l S (fun q => mb w (psw M a b q)) q]⟩)
    (fun q => q ≤ w) (fun q => w - q) 0 (Nat.zero_le _) (by simp; omega) (by simp [tm, hp_zero]) fun q hq _ => ?_
  have hg : (hp l S (fun q => mb w (psw M a b q)) q).get S = some (some ⟨0, 1, false, true, rowsM w (psw M a b q)⟩) := hp_get (b := fun q => mb w (psw M a b q)) (by simp only [psw_zero]; exact hl) q
  by_cases hlt : q < w
  · have hi := idx_succ' hlt (by omega)
    have b1 := ix_lt ha hlt
    have b2 := ix_lt hb hlt
    have aw : a * w < w * w := Nat.mul_lt_mul_of_pos_right ha (by omega)
    have bw : b * w < w * w := Nat.mul_lt_mul_of_pos_right hb (by omega)
    have g1 : ∀ h, (rowsM w (psw M a b q))[a * w + q]'h = [.int .i64 ((M a q : Nat) : Int)] := fun h => by
      rw [rowsM_get ha hlt h]; simp [psw]
    have g2 : ∀ h, (rowsM w (psw M a b q))[b * w + q]'h = [.int .i64 ((M b q : Nat) : Int)] := fun h => by
      rw [rowsM_get hb hlt h]; simp [psw]
    have m1 : IntKind.wrap .i64 ((a : Int) * (w : Int)) = ((a * w : Nat) : Int) := by rw [show (a : Int) * (w : Int) = ((a * w : Nat) : Int) by simp, wrap64 ⟨by omega, by omega⟩]
    have m2 : IntKind.wrap .i64 ((b : Int) * (w : Int)) = ((b * w : Nat) : Int) := by rw [show (b : Int) * (w : Int) = ((b * w : Nat) : Int) by simp, wrap64 ⟨by omega, by omega⟩]
    have n1 : IntKind.wrap .i64 (((a * w : Nat) : Int) + (q : Int)) = ((a * w + q : Nat) : Int) := by rw [wrap64 ⟨by omega, by omega⟩]; omega
    have n2 : IntKind.wrap .i64 (((b * w : Nat) : Int) + (q : Int)) = ((b * w + q : Nat) : Int) := by rw [wrap64 ⟨by omega, by omega⟩]; omega
    have hset := psw_next (M := M) ha hb hlt
    have hhs : (hp l S (fun q => mb w (psw M a b q)) q).set S (some ⟨0, 1, false, true, rowsM w (psw M a b (q + 1))⟩) = hp l S (fun q => mb w (psw M a b q)) (q + 1) := hp_set q
    have hln := rowsM_len w (psw M a b q)
    generalize rowsM w (psw M a b q) = R at *
    generalize rowsM w (psw M a b (q + 1)) = R' at *
    generalize M a q = u at *
    generalize M b q = v at *
    generalize hp l S (fun q => mb w (psw M a b q)) q = H at *
    generalize a * w + q = aq at *
    generalize b * w + q = bq at *
    generalize a * w = a' at *
    generalize b * w = b' at *
    generalize w * w = ww at *
    have hb1 : ∀ h, ((R.set aq [AV.int .i64 ((v : Nat) : Int)])[bq]'h).length = 1 := fun h => by
      rw [List.getElem_set]
      split
      · rfl
      · rw [g2]; rfl
    have hb2 : ∀ h, ((R.set aq [AV.int .i64 ((v : Nat) : Int)])[bq]'h).tail = [] := fun h => by
      rw [List.getElem_set]
      split
      · rfl
      · rw [g2]; rfl
    simp [tm, hb1, hb2, hlt, hg, b1, b2, g1, g2, hi, m1, m2, n1, n2, hln, set_set_same, get_set, hset, hhs]
    exact ⟨q + 1, by omega, by omega, by simp⟩
  · have : q = w := by omega
    subst this
    simp [tm, mb]
end Go.Ae.C3
namespace Go.Ae.C3
set_option linter.unusedSimpArgs false
set_option linter.unusedVariables false
theorem set_set_ne (s t : Nat) (a b c : Option Blk) (h : s ≠ t) : ∀ l : Heap, ((l.set s a).set t b).set s c = (l.set s c).set t b
  | [] => by
    have h' : ¬ t = s := fun e => h e.symm
    by_cases h2 : t < s
    · simp [Heap.set, h, h', h2, show ¬ s < t by omega]
    · simp [Heap.set, h, h', h2]
  | (u, d) :: r => by
    have ih := set_set_ne s t a b c h r
    have h' : ¬ t = s := fun e => h e.symm
    rcases Nat.lt_trichotomy s t with h2 | h2 | h2
    · rcases Nat.lt_trichotomy s u with h1 | h1 | h1
      · simp [Heap.set, h, h', h1, h2, show ¬ t < s by omega, show ¬ s = u by omega]
      · subst h1; simp [Heap.set, h, h', h2, show ¬ t < s by omega]
      · rcases Nat.lt_trichotomy t u with h3 | h3 | h3
        · omega
        · omega
        · simp [Heap.set, show ¬ s = u by omega, show ¬ s < u by omega, show ¬ t = u by omega, show ¬ t < u by omega, ih]
    · exact absurd h2 h
    · rcases Nat.lt_trichotomy s u with h1 | h1 | h1
      · simp [Heap.set, h, h', h1, h2, show ¬ s < t by omega, show ¬ s = u by omega]
      · subst h1; simp [Heap.set, h, h', h2, show ¬ s < t by omega]
      · rcases Nat.lt_trichotomy t u with h3 | h3 | h3
        · simp [Heap.set, h, h', h3, show ¬ t = u by omega, show ¬ s = u by omega, show ¬ s < u by omega, show ¬ s < t by omega, set_set_same]
        · subst h3; simp [Heap.set, h, h', show ¬ s < t by omega, set_set_same]
        · simp [Heap.set, show ¬ s = u by omega, show ¬ s < u by omega, show ¬ t = u by omega, show ¬ t < u by omega, ih]
def h2 (l : Heap) (S T : Nat) (x y : Blk) : Heap := (l.set S (some x)).set T (some y)
theorem h2_s {l : Heap} {S T : Nat} {x y : Blk} (h : S ≠ T) : (h2 l S T x y).get S = some (some x) := by rw [h2, get_set, if_neg h, get_set, if_pos rfl]
theorem h2_t {l : Heap} {S T : Nat} {x y : Blk} : (h2 l S T x y).get T = some (some y) := by rw [h2, get_set, if_pos rfl]
theorem h2_setS {l : Heap} {S T : Nat} {x y z : Blk} (h : S ≠ T) : (h2 l S T x y).set S (some z) = h2 l S T z y := set_set_ne S T _ _ _ h l
theorem h2_setT {l : Heap} {S T : Nat} {x y z : Blk} : (h2 l S T x y).set T (some z) = h2 l S T x z := set_set_same T _ _ _
def sclRow (M : Mx) (t c : Nat) : Mx := fun i j => if i = t then gm c (M t j) else M i j
def psc (M : Mx) (t c q : Nat) : Mx := fun i j => if i = t ∧ j < q then gm c (M t j) else M i j
theorem psc_zero (M : Mx) (t c : Nat) : psc M t c 0 = M := by funext i j; simp [psc]
theorem psc_all {w : Nat} (M : Mx) (t c : Nat) : rowsM w (psc M t c w) = rowsM w (sclRow M t c) := rowsM_congr fun i j _ hj => by simp [psc, sclRow, hj]
theorem part_all {w : Nat} (M : Mx) (t s c : Nat) : rowsM w (part M t c (M s) w) = rowsM w (addRow M t s c) := rowsM_congr fun i j _ hj => by simp [part, addRow, hj]
theorem psc_next {w : Nat} {M : Mx} {t c q : Nat} (ht : t < w) (hq : q < w) :
    (rowsM w (psc M t c q)).set (t * w + q) [.int .i64 ((gm c (M t q) : Nat) : Int)] = rowsM w (psc M t c (q + 1)) := by
  rw [rowsM_set ht hq]
  apply rowsM_congr
  intro i j hi hj
  unfold psc
  by_cases h1 : i = t
  · subst h1
    by_cases h2 : j = q
    · subst h2; simp
    · by_cases h3 : j < q
      · simp [h2, h3, show j < q + 1 by omega]
      · simp [h2, h3, show ¬ j < q + 1 by omega]
  · simp [h1]
theorem sclRow_bnd {w t c : Nat} {A : Mx} (h : bnd w A) (hc : c < 256) : bnd w (sclRow A t c) := by
  intro i j hi hj
  unfold sclRow
  split
  · exact gm_lt hc
  · exact h i j hi hj
def scal (i : Nat) (p : Mx × Mx) : Mx × Mx := (sclRow p.1 i (inv (p.1 i i)), sclRow p.2 i (inv (p.1 i i)))
theorem mulw {a w : Nat} (ha : a < w) (hw : w ≤ 8) : IntKind.wrap .i64 ((a : Int) * (w : Int)) = ((a * w : Nat) : Int) := by
  have : a * w ≤ 8 * 8 := Nat.mul_le_mul (by omega) hw
  rw [show (a : Int) * (w : Int) = ((a * w : Nat) : Int) by simp, wrap64 ⟨by omega, by omega⟩]
theorem addw {a w q : Nat} (ha : a < w) (hw : w ≤ 8) (hq : q < w) : IntKind.wrap .i64 (((a * w : Nat) : Int) + (q : Int)) = ((a * w + q : Nat) : Int) := by
  have : a * w ≤ 8 * 8 := Nat.mul_le_mul (by omega) hw
  rw [wrap64 ⟨by omega, by omega⟩]; omega
set_option maxHeartbeats 8000000 in
set_option maxRecDepth 100000 in
theorem clear (k : Nat) (l : Heap) (S T w i : Nat) (A O : Mx) (hw : 1 ≤ w ∧ w ≤ 8) (hi : i < w) (hST : S ≠ T) (hA : bnd w A) (hO : bnd w O) (hl : h2 l S T (mb w A) (mb w O) = l) :
    call code (k + 4) 170 [.sl 1 S 0 [] 0 (w * w), .sl 1 T 0 [] 0 (w * w), .int .i64 w, .int .i64 i] [l] =
      some ⟨.tup [], [], [h2 l S T (mb w (elim i (scal i (A, O)) w).1) (mb w (elim i (scal i (A, O)) w).2)]⟩ := by
  refine call_run rfl fn170 rfl ?_
  have h64 : w * w ≤ 8 * 8 := Nat.mul_le_mul hw.2 hw.2
  have hv := hA i i hi hi
  have hinv := fun k => l02Inv k (A i i) hv
  have hil := inv_lt hv
  have hgS : l.get S = some (some (mb w A)) := by rw [← hl]; exact h2_s hST
  have hgT : l.get T = some (some (mb w O)) := by rw [← hl]; exact h2_t
  have hii := ix_lt hi hi
  have g0 : ∀ h, (rowsM w A)[i * w + i]'h = [.int .i64 ((A i i : Nat) : Int)] := fun h => rowsM_get hi hi h
  have bA := sclRow_bnd (t := i) hA hil
  have bO := sclRow_bnd (t := i) hO hil
  have hsc : scal i (A, O) = (sclRow A i (inv (A i i)), sclRow O i (inv (A i i))) := rfl
  rw [hsc]
  have z1 : h2 l S T (mb w (psc A i (inv (A i i)) 0)) (mb w (psc O i (inv (A i i)) 0)) = l := by rw [psc_zero, psc_zero]; exact hl
  have e1 := psc_all (w := w) A i (inv (A i i))
  have e2 := psc_all (w := w) O i (inv (A i i))
  have m1 := mulw hi hw.2
  have n1 := addw hi hw.2 hi
  generalize hcc : inv (A i i) = c at *
  simp only [mb] at hgS hgT
  have lA := rowsM_len w A
  generalize i * w + i = ii at *
  generalize hiw : i * w = iw at *
  generalize hww : w * w = ww at *
  simp [F170, hgS, hgT, m1, n1, hii, lA, g0, rcall163, hinv, hcc]
  subst hiw hww
  refine RunC_loop (fun q : Nat => ⟨tm 126 [(0, .sl 1 S 0 [] 0 (w * w)), (1, .sl 1 T 0 [] 0 (w * w)), (2, .int .i64 w), (3, .int .i64 i), (8, .int .i64 c), (9, .int .i64 q)], [], [h2 l S T (mb w (psc A i c q)) (mb w (psc O i c q))]⟩)
    (fun q => q ≤ w) (fun q => w - q) 0 (Nat.zero_le _) (by simp; omega) (by simp [tm, z1]) fun q hq _ => ?_
  have pS : (h2 l S T (mb w (psc A i c q)) (mb w (psc O i c q))).get S = some (some ⟨0, 1, false, true, rowsM w (psc A i c q)⟩) := h2_s hST
  have pT : (h2 l S T (mb w (psc A i c q)) (mb w (psc O i c q))).get T = some (some ⟨0, 1, false, true, rowsM w (psc O i c q)⟩) := h2_t
  by_cases hlt : q < w
  · have hs := idx_succ' hlt (by omega)
    have b1 := ix_lt hi hlt
    have n2 := addw hi hw.2 hlt
    have g1 : ∀ h, (rowsM w (psc A i c q))[i * w + q]'h = [.int .i64 ((A i q : Nat) : Int)] := fun h => by
      rw [rowsM_get hi hlt h]; simp [psc]
    have g2 : ∀ h, (rowsM w (psc O i c q))[i * w + q]'h = [.int .i64 ((O i q : Nat) : Int)] := fun h => by
      rw [rowsM_get hi hlt h]; simp [psc]
    have t1 := fun k => l02Times k c (A i q) hil (hA i q hi hlt)
    have t2 := fun k => l02Times k c (O i q) hil (hO i q hi hlt)
    have s1 := psc_next (M := A) (c := c) hi hlt
    have s2 := psc_next (M := O) (c := c) hi hlt
    have q1 := h2_setS (l := l) (T := T) (x := mb w (psc A i c q)) (y := mb w (psc O i c q)) (z := mb w (psc A i c (q + 1))) hST
    have q2 := h2_setT (l := l) (S := S) (T := T) (x := mb w (psc A i c (q + 1))) (y := mb w (psc O i c q)) (z := mb w (psc O i c (q + 1)))
    have q3 : (h2 l S T (mb w (psc A i c (q + 1))) (mb w (psc O i c q))).get T = some (some ⟨0, 1, false, true, rowsM w (psc O i c q)⟩) := h2_t
    have l1 := rowsM_len w (psc A i c q)
    have l2 := rowsM_len w (psc O i c q)
    generalize hH' : h2 l S T (mb w (psc A i c (q + 1))) (mb w (psc O i c q)) = H' at *
    generalize hH'' : h2 l S T (mb w (psc A i c (q + 1))) (mb w (psc O i c (q + 1))) = H'' at *
    generalize hH : h2 l S T (mb w (psc A i c q)) (mb w (psc O i c q)) = H at *
    simp only [mb] at q1 q2
    generalize rowsM w (psc A i c q) = RA at *
    generalize rowsM w (psc O i c q) = RO at *
    generalize rowsM w (psc A i c (q + 1)) = RA' at *
    generalize rowsM w (psc O i c (q + 1)) = RO' at *
    generalize A i q = u at *
    generalize O i q = v at *
    generalize gm c u = gu at *
    generalize gm c v = gv at *
    generalize i * w + q = iq at *
    generalize i * w = iw at *
    generalize w * w = ww at *
    simp [tm, hlt, pS, pT, b1, g1, g2, hs, m1, n2, l1, l2, rcall162, t1, t2, s1, q1, q3, s2, q2]
    exact ⟨q + 1, by omega, by omega, by simp [hH'']⟩
  · have : q = w := by omega
    subst this
    have hH : h2 l S T (mb q (psc A i c q)) (mb q (psc O i c q)) = h2 l S T (mb q (sclRow A i c)) (mb q (sclRow O i c)) := by simp only [mb, e1, e2]
    rw [hH]
    generalize sclRow A i c = PA at *
    generalize sclRow O i c = PO at *
    clear hinv hcc e1 e2 pS pT hH z1 g0 n1 hsc hgS hgT hv lA hq
    simp [tm]
    refine RunC_loop (fun k : Nat => ⟨tm 126 [(0, .sl 1 S 0 [] 0 (q * q)), (1, .sl 1 T 0 [] 0 (q * q)), (2, .int .i64 q), (3, .int .i64 i), (10, .int .i64 k)], [], [h2 l S T (mb q (elim i (PA, PO) k).1) (mb q (elim i (PA, PO) k).2)]⟩)
      (fun k => k ≤ q) (fun k => q - k) 0 (Nat.zero_le _) (by simp; omega) (by simp [tm, elim]) fun k2 hk2 _ => ?_
    obtain ⟨b1, b2⟩ := elim_bnd (w := q) (i := i) (p := (PA, PO)) bA bO hi k2 hk2
    have hnx : elim i (PA, PO) (k2 + 1) = stp i (elim i (PA, PO) k2) k2 := rfl
    have hfin : k2 = q → elim i (PA, PO) q = elim i (PA, PO) k2 := fun h => by rw [h]
    generalize elim i (PA, PO) k2 = E at *
    obtain ⟨A2, O2⟩ := E
    simp only at b1 b2 hnx
    by_cases hkw : k2 < q
    · have hs := idx_succ' hkw (by omega)
      have pS : (h2 l S T (mb q A2) (mb q O2)).get S = some (some ⟨0, 1, false, true, rowsM q A2⟩) := h2_s hST
      have pT : (h2 l S T (mb q A2) (mb q O2)).get T = some (some ⟨0, 1, false, true, rowsM q O2⟩) := h2_t
      have m2 := mulw hkw hw.2
      have n2 := addw hkw hw.2 hi
      have hki := ix_lt hkw hi
      have lA := rowsM_len q A2
      have g1 : ∀ h, (rowsM q A2)[k2 * q + i]'h = [.int .i64 ((A2 k2 i : Nat) : Int)] := fun h => rowsM_get hkw hi h
      by_cases hke : k2 = i
      · subst hke
        have hst : stp k2 (A2, O2) k2 = (A2, O2) := by simp [stp]
        rw [hst] at hnx
        generalize hH : h2 l S T (mb q A2) (mb q O2) = H at *
        generalize rowsM q A2 = R at *
        generalize k2 * q + k2 = kk at *
        generalize k2 * q = kq at *
        generalize q * q = ww at *
        simp [tm, hkw, pS, m1, n2, hki, lA, g1, hs]
        exact ⟨k2 + 1, by omega, by omega, by simp, by rw [hnx, hH]⟩
      · have hke' : ((k2 : Int) == (i : Int)) = false := by simp; omega
        by_cases hz : A2 k2 i = 0
        · have hst : stp i (A2, O2) k2 = (A2, O2) := by simp [stp, hz]
          rw [hst] at hnx
          have gz : ∀ h, (rowsM q A2)[k2 * q + i]'h = [.int .i64 0] := fun h => by rw [g1 h, hz]; rfl
          generalize hH : h2 l S T (mb q A2) (mb q O2) = H at *
          generalize rowsM q A2 = R at *
          generalize k2 * q + i = kk at *
          generalize k2 * q = kq at *
          generalize q * q = ww at *
          simp [tm, hkw, pS, m2, n2, hki, lA, gz, hs, hke', hke]
          exact ⟨k2 + 1, by omega, by omega, by simp, by rw [hnx, hH]⟩
        · have hst : stp i (A2, O2) k2 = (addRow A2 k2 i (A2 k2 i), addRow O2 k2 i (A2 k2 i)) := by simp [stp, hz, hke]
          rw [hst] at hnx
          have hnz : ((A2 k2 i : Int) == 0) = false := by simp; omega
          have hv := b1 k2 i hkw hi
          have p1 := part_all (w := q) A2 k2 i (A2 k2 i)
          have p2 := part_all (w := q) O2 k2 i (A2 k2 i)
          have hne : i ≠ k2 := fun e => hke e.symm
          generalize addRow A2 k2 i (A2 k2 i) = A3 at *
          generalize addRow O2 k2 i (A2 k2 i) = O3 at *
          generalize A2 k2 i = f at *
          have hH0 : h2 l S T (mb q A2) (mb q O2) = h2 l S T (mb q (part A2 k2 f (A2 i) 0)) (mb q (part O2 k2 f (O2 i) 0)) := by rw [part_zero, part_zero]
          generalize hH : h2 l S T (mb q A2) (mb q O2) = H at *
          generalize hR : rowsM q A2 = R at *
          generalize hkk : k2 * q + i = kk at *
          generalize hkq : k2 * q = kq at *
          generalize hww : q * q = ww at *
          simp [tm, hkw, pS, m2, n2, hki, lA, g1, hs, hke', hke, hnz, hz]
          subst hkq hww
          refine RunC_loop (fun j : Nat => ⟨tm 126 [(0, .sl 1 S 0 [] 0 (q * q)), (1, .sl 1 T 0 [] 0 (q * q)), (2, .int .i64 q), (3, .int .i64 i), (10, .int .i64 k2), (11, .int .i64 f), (12, .int .i64 j)], [], [h2 l S T (mb q (part A2 k2 f (A2 i) j)) (mb q (part O2 k2 f (O2 i) j))]⟩)
            (fun j => j ≤ q) (fun j => q - j) 0 (Nat.zero_le _) (by simp; omega) (by simp [tm, hH0]) fun j hj _ => ?_
          clear pS pT hH0 hH g1
          have pS : (h2 l S T (mb q (part A2 k2 f (A2 i) j)) (mb q (part O2 k2 f (O2 i) j))).get S = some (some ⟨0, 1, false, true, rowsM q (part A2 k2 f (A2 i) j)⟩) := h2_s hST
          by_cases hjq : j < q
          · have hsj := idx_succ' hjq (by omega)
            have c1 := ix_lt hkw hjq
            have c2 := ix_lt hi hjq
            have n3 := addw hkw hw.2 hjq
            have n4 := addw hi hw.2 hjq
            have g1 : ∀ h, (rowsM q (part A2 k2 f (A2 i) j))[k2 * q + j]'h = [.int .i64 ((A2 k2 j : Nat) : Int)] := fun h => by
              rw [rowsM_get hkw hjq h]; simp [part]
            have g2 : ∀ h, (rowsM q (part A2 k2 f (A2 i) j))[i * q + j]'h = [.int .i64 ((A2 i j : Nat) : Int)] := fun h => by
              rw [rowsM_get hi hjq h]; simp [part, hne]
            have g3 : ∀ h, (rowsM q (part O2 k2 f (O2 i) j))[k2 * q + j]'h = [.int .i64 ((O2 k2 j : Nat) : Int)] := fun h => by
              rw [rowsM_get hkw hjq h]; simp [part]
            have g4 : ∀ h, (rowsM q (part O2 k2 f (O2 i) j))[i * q + j]'h = [.int .i64 ((O2 i j : Nat) : Int)] := fun h => by
              rw [rowsM_get hi hjq h]; simp [part, hne]
            have t1 := fun k => l02Times k f (A2 i j) hv (b1 i j hi hjq)
            have t2 := fun k => l02Times k f (O2 i j) hv (b2 i j hi hjq)
            have x1 := gx (A2 k2 j) (gm f (A2 i j)) (b1 k2 j hkw hjq) (gm_lt hv)
            have x2 := gx (O2 k2 j) (gm f (O2 i j)) (b2 k2 j hkw hjq) (gm_lt hv)
            have s1 := part_next (M := A2) (c := f) (xs := A2 i) hkw hjq
            have s2 := part_next (M := O2) (c := f) (xs := O2 i) hkw hjq
            have q1 := h2_setS (l := l) (T := T) (x := mb q (part A2 k2 f (A2 i) j)) (y := mb q (part O2 k2 f (O2 i) j)) (z := mb q (part A2 k2 f (A2 i) (j + 1))) hST
            have q2 := h2_setT (l := l) (S := S) (T := T) (x := mb q (part A2 k2 f (A2 i) (j + 1))) (y := mb q (part O2 k2 f (O2 i) j)) (z := mb q (part O2 k2 f (O2 i) (j + 1)))
            have q3 : (h2 l S T (mb q (part A2 k2 f (A2 i) (j + 1))) (mb q (part O2 k2 f (O2 i) j))).get T = some (some ⟨0, 1, false, true, rowsM q (part O2 k2 f (O2 i) j)⟩) := h2_t
            have l1 := rowsM_len q (part A2 k2 f (A2 i) j)
            have l2 := rowsM_len q (part O2 k2 f (O2 i) j)
            generalize hH' : h2 l S T (mb q (part A2 k2 f (A2 i) (j + 1))) (mb q (part O2 k2 f (O2 i) j)) = H' at *
            generalize hH'' : h2 l S T (mb q (part A2 k2 f (A2 i) (j + 1))) (mb q (part O2 k2 f (O2 i) (j + 1))) = H'' at *
            generalize hH : h2 l S T (mb q (part A2 k2 f (A2 i) j)) (mb q (part O2 k2 f (O2 i) j)) = H at *
            simp only [mb] at q1 q2
            generalize rowsM q (part A2 k2 f (A2 i) j) = RA at *
            generalize rowsM q (part O2 k2 f (O2 i) j) = RO at *
            generalize rowsM q (part A2 k2 f (A2 i) (j + 1)) = RA' at *
            generalize rowsM q (part O2 k2 f (O2 i) (j + 1)) = RO' at *
            generalize A2 i j = u at *
            generalize O2 i j = v at *
            generalize A2 k2 j = u' at *
            generalize O2 k2 j = v' at *
            generalize gm f u = gu at *
            generalize gm f v = gv at *
            generalize u' ^^^ gu = gu' at *
            generalize v' ^^^ gv = gv' at *
            generalize i * q + j = iq at *
            generalize k2 * q + j = kj at *
            generalize i * q = iw at *
            generalize k2 * q = kw at *
            generalize q * q = ww at *
            simp [tm, hjq, pS, c1, c2, g1, g2, g3, g4, hsj, m1, m2, n3, n4, l1, l2, rcall162, t1, t2, x1, x2, s1, q1, q3, s2, q2]
            exact ⟨j + 1, by omega, by omega, by simp [hH'']⟩
          · have hjj : j = q := by omega
            subst hjj
            simp [tm, hs]
            exact ⟨k2 + 1, by omega, by omega, by simp, by rw [hnx]; simp only [mb, p1, p2]⟩
    · have hqq : k2 = q := by omega
      have hf := hfin hqq
      subst hqq
      rw [hf]
      simp [tm]
end Go.Ae.C3
namespace Go.Ae.C3
set_option linter.unusedSimpArgs false
set_option linter.unusedVariables false
def pivS (w : Nat) (p : Mx × Mx) (i : Nat) : Option (Mx × Mx) := match fst w p.1 i with
  | none => none
  | some k => some (swp p.1 i k, swp p.2 i k)
def stepS (w : Nat) (p : Mx × Mx) (i : Nat) : Option (Mx × Mx) := (pivS w p i).map fun q => elim i (scal i q) w
def runS (w : Nat) (p : Mx × Mx) : Nat → Option (Mx × Mx)
  | 0 => some p
  | n + 1 => (runS w p n).bind fun q => stepS w q n
theorem runS_none {w m : Nat} {p : Mx × Mx} (h : runS w p m = none) : ∀ n, m ≤ n → runS w p n = none
  | 0, hn => by rw [show m = 0 by omega] at h; exact h
  | n + 1, hn => by
    rcases Nat.eq_or_lt_of_le hn with rfl | h2
    · exact h
    · rw [runS, runS_none h n (by omega)]; rfl
theorem swp_bnd {w a b : Nat} {A : Mx} (h : bnd w A) (ha : a < w) (hb : b < w) : bnd w (swp A a b) := by
  intro i j hi hj
  unfold swp
  split
  · exact h b j hb hj
  · split
    · exact h a j ha hj
    · exact h i j hi hj
theorem own (k w : Nat) (M : Mx) (hw : 1 ≤ w ∧ w ≤ 8) : call code (k + 1) 168 [.rd true (rowsM w M)] [] = some ⟨.sl 0 0 0 [] 0 (w * w), [mb w M], []⟩ := by
  refine call_run rfl fn168 rfl ?_
  have h64 : w * w ≤ 8 * 8 := Nat.mul_le_mul hw.2 hw.2
  have hall : ∀ x ∈ rowsM w M, x.length = 1 := by
    intro x hx
    simp only [rowsM, rowsZ, castL, List.mem_map] at hx
    obtain ⟨a, _, rfl⟩ := hx
    rfl
  have hl := rowsM_len w M
  have h0 : 0 < w * w := Nat.mul_pos (by omega) (by omega)
  have hne : rowsM w M ≠ [] := fun e => by rw [e] at hl; simp at hl; omega
  unfold mb
  generalize rowsM w M = R at *
  generalize w * w = ww at *
  simp [F168, evalW, source, hl, hne]
  exact ⟨hall, by omega, by omega⟩
def hpS (w : Nat) (M0 A O : Mx) : Heap := [(0, some ⟨0, 3, true, false, [[.int .i64 w, .int .i64 w, .rd true (rowsM w M0)]]⟩), (256, some ⟨0, 3, true, false, [[.int .i64 0, .int .i64 0, .sl 0 259 0 [] 0 0]]⟩), (259, some ⟨0, 1, false, true, []⟩),
  (131584, some ⟨0, 1, false, true, rowsM w A⟩), (196864, some ⟨0, 1, false, true, rowsM w O⟩), (197120, some ⟨0, 3, true, false, [[.int .i64 w, .int .i64 w, .sl 0 196864 0 [] 0 (w * w)]]⟩), (197123, some ⟨0, 1, false, true, []⟩)]
set_option maxHeartbeats 16000000 in
set_option maxRecDepth 100000 in
theorem l03Inv (k w : Nat) (M0 : Mx) (hw : 1 ≤ w ∧ w ≤ 8) (hM : bnd w M0) : call code (k + 5) 149 [.agg [.int .i64 w, .int .i64 w, .rd true (rowsM w M0)]] [] = some (resInv w (runS w (M0, idM) w)) := by
  refine call_run rfl fn149 rfl ?_
  have h64 : w * w ≤ 8 * 8 := Nat.mul_le_mul hw.2 hw.2
  have ho := fun k => own k w M0 hw
  have hu := fun k => l03Unit k w ⟨hw.1, by omega⟩
  rw [uz_id w (by omega)] at hu
  have r2 : ∀ A : Mx, rowsZ (castL (fl w A)) = rowsM w A := fun _ => rfl
  rw [r2] at hu
  simp only [mb] at ho
  generalize hww : w * w = ww at *
  simp [F149, rcall168, ho, rcall161, hu]
  subst hww
  refine RunC_loop (fun q : Nat × Mx × Mx => ⟨tm 60 [(2, .ptr 0 256 0 [] 0 0), (4, .int .i64 w), (5, .sl 0 131584 0 [] 0 (w * w)), (6, .ptr 0 197120 0 [] 0 0), (7, .int .i64 q.1)], hpS w M0 q.2.1 q.2.2, []⟩)
    (fun q => q.1 ≤ w ∧ runS w (M0, idM) q.1 = some q.2 ∧ bnd w q.2.1 ∧ bnd w q.2.2) (fun q => w - q.1) (0, M0, idM) ⟨Nat.zero_le _, rfl, hM, idM_bnd w⟩ (by simp; omega) (by simp [tm, hpS]) fun q hq _ => ?_
  obtain ⟨i, A, O⟩ := q
  obtain ⟨hi, hrun, hA, hO⟩ := hq
  simp only at hi hrun hA hO
  by_cases hlt : i < w
  · have hs := idx_succ' hlt (by omega)
    simp [tm, hpS, hlt]
    refine RunC_loop (fun q : Nat => ⟨tm 60 [(2, .ptr 0 256 0 [] 0 0), (4, .int .i64 w), (5, .sl 0 131584 0 [] 0 (w * w)), (6, .ptr 0 197120 0 [] 0 0), (7, .int .i64 i), (8, .int .i64 q)], hpS w M0 A O, []⟩)
      (fun q => i ≤ q ∧ q ≤ w ∧ ∀ j, i ≤ j → j < q → A j i = 0) (fun q => w - q) i ⟨Nat.le_refl _, hi, fun j h1 h2 => by omega⟩ (by simp; omega) (by simp [tm, hpS]) fun kx hq _ => ?_
    obtain ⟨hik, hkw, hz⟩ := hq
    by_cases hkl : kx < w
    · have hsk := idx_succ' hkl (by omega)
      have hki := ix_lt hkl hlt
      have m1 := mulw hkl hw.2
      have n1 := addw hkl hw.2 hlt
      have lA := rowsM_len w A
      have g1 : ∀ h, (rowsM w A)[kx * w + i]'h = [.int .i64 ((A kx i : Nat) : Int)] := fun h => rowsM_get hkl hlt h
      by_cases hkz : A kx i = 0
      · have gz : ∀ h, (rowsM w A)[kx * w + i]'h = [.int .i64 0] := fun h => by rw [g1 h, hkz]; rfl
        generalize kx * w + i = ki at *
        generalize kx * w = kw at *
        generalize w * w = ww at *
        simp [tm, hpS, hkl, m1, n1, hki, lA, gz, hsk]
        exact ⟨kx + 1, ⟨by omega, by omega, fun j h1 h2 => by rcases Nat.lt_succ_iff_lt_or_eq.1 h2 with h | rfl; exact hz j h1 h; exact hkz⟩, by omega, by simp⟩
      · have hnz : ((A kx i : Int) == 0) = false := by simp; omega
        have hne : ((kx : Int) == (w : Int)) = false := by simp; omega
        have hne2 : ¬ kx = w := by omega
        have hf : fst w A i = some kx := fst_some hkl hik hkz hz
        have hstep : runS w (M0, idM) (i + 1) = some (elim i (scal i (swp A i kx, swp O i kx)) w) := by
          rw [runS, hrun]
          simp only [Option.bind_some, stepS, pivS]
          rw [hf]; rfl
        have bA := swp_bnd hA hlt hkl
        have bO := swp_bnd hO hlt hkl
        have sw1 := fun k l hl => swap k l 131584 w i kx A hw hlt hkl hl
        have sw2 := fun k l hl => swap k l 196864 w i kx O hw hlt hkl hl
        have he1 : ∀ l : Heap, l.set 131584 (some (mb w A)) = l → hp l 131584 (fun q => mb w (psw A i kx q)) w = l.set 131584 (some (mb w (swp A i kx))) := fun l h => by
          rw [hp_all (by simp only [psw_zero]; exact h)]; simp only [mb, psw_all]
        have he2 : ∀ l : Heap, l.set 196864 (some (mb w O)) = l → hp l 196864 (fun q => mb w (psw O i kx q)) w = l.set 196864 (some (mb w (swp O i kx))) := fun l h => by
          rw [hp_all (by simp only [psw_zero]; exact h)]; simp only [mb, psw_all]
        have cl := fun k l hl => clear k l 131584 196864 w i (swp A i kx) (swp O i kx) hw hlt (by decide) bA bO hl
        have bE := elim_bnd (w := w) (i := i) (p := scal i (swp A i kx, swp O i kx)) (sclRow_bnd bA (inv_lt (bA i i hlt hlt))) (sclRow_bnd bO (inv_lt (bA i i hlt hlt))) hlt w (Nat.le_refl _)
        simp only [mb] at sw1 sw2 he1 he2
        generalize swp A i kx = SA at *
        generalize swp O i kx = SO at *
        generalize elim i (scal i (SA, SO)) w = E at *
        obtain ⟨A3, O3⟩ := E
        simp only [mb, h2] at cl
        generalize kx * w + i = ki at *
        generalize kx * w = kw at *
        simp only [hpS]
        generalize w * w = ww at *
        simp [tm, hkl, m1, n1, hki, lA, g1, hnz, hkz, hne, hne2, hs, rcall169, sw1, he1, sw2, he2, rcall170, cl]
        exact ⟨i + 1, A3, O3, ⟨by omega, hstep, bE.1, bE.2⟩, by omega, by simp, rfl, rfl⟩
    · have : kx = w := by omega
      subst this
      have hnone : runS kx (M0, idM) (i + 1) = none := by
        rw [runS, hrun]
        simp only [Option.bind_some, stepS, pivS]
        rw [fst_none hz]; rfl
      have hnone2 : runS kx (M0, idM) kx = none := runS_none hnone _ hlt
      rw [hnone2]
      simp [tm, hpS, resInv]
  · have : i = w := by omega
    subst this
    rw [hrun]
    simp [tm, hpS, resInv, mb]
end Go.Ae.C3
