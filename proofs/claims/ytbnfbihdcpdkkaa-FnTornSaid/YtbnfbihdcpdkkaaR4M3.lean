/- Disks drawn: the reference's text. -/
import Derived.Test.YtbnfbihdcpdkkaaR4M2
namespace Go.Ae.R4
set_option linter.unusedSimpArgs false
set_option linter.unusedVariables false
theorem rowsP_app1 (ps : List (Int × ByteArray)) (a : Int) (t : ByteArray) : rowsP ps ++ [[.int .i64 a, .str t]] = rowsP (ps ++ [(a, t)]) := by simp [rowsP]
set_option maxHeartbeats 16000000 in
theorem l14Disk (l : List UInt8) (p : Nat) (sd : Int) (hp : p ≤ 1000) (k lv : Nat) (E : List Heap) (S : Nat) (hlv : lv < E.length) (hg : (hat E lv).get S = some (some (srcB l p sd))) :
    call code (k + 4) 33 [.ptr (lv + 1) S 0 [] 0 0] E = some ⟨.agg [.sl 0 0 0 [] 0 (dsk3 l p sd).ss.length, .sl 0 1 0 [] 0 (dsk3 l p sd).ps.length], [⟨0, 1, false, true, rowsT (dsk3 l p sd).ss⟩, ⟨0, 2, false, true, rowsP (dsk3 l p sd).ps⟩], E.modify lv fun h => h.set S (some (srcB l (dsk3 l p sd).p (dsk3 l p sd).sd))⟩ := by
  refine call_run rfl fn33 rfl ?_
  have hx := fun k l0 => pick l p 5 sd (by omega) (by omega) k (lv + 1) (l0 :: E) S (by simp; omega) (by simpa using hg)
  have hr : nxV l p sd % 5 < 5 := Nat.mod_lt _ (by omega)
  have E2 : dsk3 l p sd = dEnd l (nxV l (d2 l p sd).p (d2 l p sd).sd % 20) ⟨(d2 l p sd).ss, (d2 l p sd).ps, (d2 l p sd).p + 1, nxS l (d2 l p sd).p (d2 l p sd).sd⟩ := rfl
  have E1 : d2 l p sd = psI l (1 + nxV l p sd % 5) ⟨(d1 l p sd).ss, [], (d1 l p sd).p + 1, nxS l (d1 l p sd).p (d1 l p sd).sd⟩ (nxV l (d1 l p sd).p (d1 l p sd).sd % 5) := rfl
  have E0 : d1 l p sd = ssI l ⟨List.replicate (1 + nxV l p sd % 5) (B z64), [], p + 1, nxS l p sd⟩ (1 + nxV l p sd % 5) := rfl
  generalize dsk3 l p sd = D3 at *
  generalize d2 l p sd = D2 at *
  generalize d1 l p sd = D1 at *
  generalize nxV l p sd % 5 = r at *
  generalize nxS l p sd = s0 at *
  have c5 : ((5 : Nat) : Int) = 5 := rfl
  rw [c5] at hx
  have e1 : IntKind.wrap .i64 (1 + (r : Int)) = ((1 + r : Nat) : Int) := by rw [wrap64 ⟨by omega, by omega⟩]; omega
  have hnd : ∀ k, call code (k + 2) 59 [.int .i64 ((1 + r : Nat) : Int)] [] = some ⟨.tup [.agg [.sl 0 0 0 [] 0 (1 + r), .sl 0 1 0 [] 0 0], .int .i64 0], [⟨0, 1, false, true, rowsT (List.replicate (1 + r) (B z64))⟩, ⟨0, 2, false, true, []⟩], []⟩ := fun k => newDisk k (1 + r) (by omega)
  have hn1 : 1 ≤ 1 + r ∧ 1 + r ≤ 5 := by omega
  generalize 1 + r = n at *
  have hrl : (rowsT (List.replicate n (B z64))).length = n := by rw [rowsT_len]; simp
  simp [F33, rcall32, hx, e1, rcall59, hnd, storeM, hrl]
  clear hnd hx e1
  refine RunC_loop (fun i : Nat => ⟨tm 99 [(0, .ptr (lv + 1) S 0 [] 0 0), (2, .ptr 0 0 0 [] 0 0), (3, .ptr 0 67328 0 [] 0 0), (5, .int .i64 n), (20, .int .i64 n), (21, .int .i64 i)],
      hD .skp n 0 (rowsT (ssI l ⟨List.replicate n (B z64), [], p + 1, s0⟩ i).ss) [], E.modify lv fun h => h.set S (some (srcB l (ssI l ⟨List.replicate n (B z64), [], p + 1, s0⟩ i).p (ssI l ⟨List.replicate n (B z64), [], p + 1, s0⟩ i).sd))⟩)
    (fun i => i ≤ n) (fun i => n - i) 0 (Nat.zero_le _) (by simp; omega) (by simp [tm, ssI, hD]) fun i hi _ => ?_
  obtain ⟨a1, a2, a3, a4⟩ := ssI_ok l ⟨List.replicate n (B z64), [], p + 1, s0⟩ i
  simp only [List.length_replicate] at a1 a3
  by_cases hlt : i < n
  · have hs := idx_succ' hlt (by omega)
    have hnx : ssI l ⟨List.replicate n (B z64), [], p + 1, s0⟩ (i + 1) = (let y := ssI l ⟨List.replicate n (B z64), [], p + 1, s0⟩ i; ⟨y.ss.set i (B (sec l y.p y.sd).bs), y.ps, (sec l y.p y.sd).p, (sec l y.p y.sd).sd⟩) := rfl
    generalize hy' : ssI l ⟨List.replicate n (B z64), [], p + 1, s0⟩ (i + 1) = y' at *
    generalize ssI l ⟨List.replicate n (B z64), [], p + 1, s0⟩ i = y at *
    obtain ⟨ss, ps, q, s⟩ := y
    simp only at *
    have h1 := fun k l0 => l14Sector l q s (by omega) k (lv + 1) (l0 :: E.modify lv fun h => h.set S (some (srcB l q s))) S (by have := hlE (E := E) (S := S) (b := srcB l q s) hlv; simp at this ⊢; omega) (by simpa using hgE hlv)
    have hset := rowsT_set ss i (B (sec l q s).bs)
    have hrl2 := rowsT_len ss
    rw [a1] at hrl2
    have hgl : ∀ j (h : j < (rowsT ss).length), ((rowsT ss)[j]'h).length = 1 := fun j h => by simp [rowsT]
    have hgt : ∀ j (h : j < (rowsT ss).length), ((rowsT ss)[j]'h).tail = [] := fun j h => by simp [rowsT]
    generalize sec l q s = z at *
    generalize B z.bs = Z at *
    generalize hR' : rowsT (ss.set i Z) = R' at *
    generalize rowsT ss = R at *
    simp [tm, hlt, hs, hD, rcall37, h1, storeM, hrl2, hset, hgl, hgt, modify_modify', set_set_same, get_set]
    exact ⟨i + 1, by omega, by omega, by simp, by rw [hy', hnx, hR'], by rw [hy', hnx]⟩
  · have : i = n := by omega
    subst this
    rw [← E0] at a1 a2 a3 a4 ⊢
    clear E0
    have q1 : D1.p ≤ p + 51 := by omega
    have hx := fun k l0 => pick l D1.p 5 D1.sd (by omega) (by omega) k (lv + 1) (l0 :: E.modify lv fun h => h.set S (some (srcB l D1.p D1.sd))) S (by have := hlE (E := E) (S := S) (b := srcB l D1.p D1.sd) hlv; simp at this ⊢; omega) (by simpa using hgE hlv)
    rw [c5] at hx
    have hr2 : nxV l D1.p D1.sd % 5 < 5 := Nat.mod_lt _ (by omega)
    generalize nxV l D1.p D1.sd % 5 = r2 at *
    generalize nxS l D1.p D1.sd = s1 at *
    simp [tm, hD, rcall32, hx, modify_modify', set_set_same]
    refine RunC_loop (fun j : Nat => ⟨tm 99 [(0, .ptr (lv + 1) S 0 [] 0 0), (2, .ptr 0 0 0 [] 0 0), (3, .ptr 0 67328 0 [] 0 0), (5, .int .i64 i), (7, .int .i64 ((r2 - j : Nat) : Int))],
        hD .skp i j (rowsT D1.ss) (rowsP (psI l i ⟨D1.ss, [], D1.p + 1, s1⟩ j).ps), E.modify lv fun h => h.set S (some (srcB l (psI l i ⟨D1.ss, [], D1.p + 1, s1⟩ j).p (psI l i ⟨D1.ss, [], D1.p + 1, s1⟩ j).sd))⟩)
      (fun j => j ≤ r2) (fun j => r2 - j) 0 (Nat.zero_le _) (by simp; omega) (by simp [tm, psI, hD, rowsP]) fun j hj _ => ?_
    obtain ⟨b1, b2, b3⟩ := psI_ok l i ⟨D1.ss, [], D1.p + 1, s1⟩ j
    simp only [List.length_nil, Nat.zero_add] at b1 b2 b3
    by_cases hlt : j < r2
    · have hd : decide ((0 : Int) < ((r2 - j : Nat) : Int)) = true := by simp; omega
      have hsub : IntKind.wrap .i64 (((r2 - j : Nat) : Int) - 1) = ((r2 - (j + 1) : Nat) : Int) := by rw [wrap64 ⟨by omega, by omega⟩]; omega
      have hnx : psI l i ⟨D1.ss, [], D1.p + 1, s1⟩ (j + 1) = (let y := psI l i ⟨D1.ss, [], D1.p + 1, s1⟩ j; ⟨y.ss, y.ps ++ [(((atV l i y.p y.sd : Nat) : Int), B (sec l (atP i y.p) (atS l i y.p y.sd)).bs)], (sec l (atP i y.p) (atS l i y.p y.sd)).p, (sec l (atP i y.p) (atS l i y.p y.sd)).sd⟩) := rfl
      generalize hy' : psI l i ⟨D1.ss, [], D1.p + 1, s1⟩ (j + 1) = y' at *
      generalize psI l i ⟨D1.ss, [], D1.p + 1, s1⟩ j = y at *
      obtain ⟨ss, ps, q, s⟩ := y
      simp only at *
      have hq : atP i q ≤ q + 1 := by unfold atP; split <;> omega
      have h0 := fun k l0 => pickN l q i s (by omega) (by omega) k (lv + 1) (l0 :: E) S (by simp; omega)
      simp only [List.modify_succ_cons] at h0
      have h1 := fun k l0 => l14Sector l (atP i q) (atS l i q s) (by omega) k (lv + 1) (l0 :: E.modify lv fun h => h.set S (some (srcB l (atP i q) (atS l i q s)))) S (by have := hlE (E := E) (S := S) (b := srcB l (atP i q) (atS l i q s)) hlv; simp at this ⊢; omega) (by simpa using hgE hlv)
      have happ := rowsP_app1 ps ((atV l i q s : Nat) : Int) (B (sec l (atP i q) (atS l i q s)).bs)
      have hrl2 := rowsP_len ps
      rw [b2] at hrl2
      generalize sec l (atP i q) (atS l i q s) = z at *
      generalize atV l i q s = v at *
      generalize B z.bs = Z at *
      generalize hR' : rowsP (ps ++ [((v : Int), Z)]) = R' at *
      generalize rowsP ps = R at *
      generalize hrr : ((r2 - (j + 1) : Nat) : Int) = rr at *
      generalize ((r2 - j : Nat) : Int) = r0 at *
      simp [tm, hd, hsub, hD, rcall32, h0, rcall37, h1, storeM, hrl2, happ, evalW, source, modify_modify', set_set_same, get_set]
      exact ⟨by omega, j + 1, by omega, by omega, hrr.symm, by rw [hy', hnx, hR']; exact ⟨rfl, rfl⟩, by rw [hy', hnx]⟩
    · have : j = r2 := by omega
      subst this
      rw [← E1] at b1 b2 b3 ⊢
      clear E1
      have hx := fun k l0 => pick l D2.p 20 D2.sd (by omega) (by omega) k (lv + 1) (l0 :: E.modify lv fun h => h.set S (some (srcB l D2.p D2.sd))) S (by have := hlE (E := E) (S := S) (b := srcB l D2.p D2.sd) hlv; simp at this ⊢; omega) (by simpa using hgE hlv)
      have c20 : ((20 : Nat) : Int) = 20 := rfl
      rw [c20] at hx
      generalize nxV l D2.p D2.sd % 20 = v at *
      generalize nxS l D2.p D2.sd = s2 at *
      obtain ⟨ss, ps, q, s⟩ := D2
      simp only at *
      subst E2
      rw [← b1] at a1 a4 ⊢
      clear b1
      have l1 := rowsT_len ss
      have l2 := rowsP_len ps
      rw [a1] at l1
      rw [b2] at l2
      have hgq : ∀ l0 : Heap, (hat (l0 :: E.modify lv fun h => h.set S (some (srcB l (q + 1) s2))) (lv + 1)).get S = some (some (srcB l (q + 1) s2)) := fun l0 => by simpa using hgE hlv
      have hlq : ∀ (l0 : Heap) (b : Blk), lv + 1 < (l0 :: E.modify lv fun h => h.set S (some b)).length := fun l0 b => by have := hlE (E := E) (S := S) (b := b) hlv; simp at this ⊢; omega
      by_cases v0 : v = 0
      · subst v0
        have h7 := fun k l0 => pick l (q + 1) 7 s2 (by omega) (by omega) k (lv + 1) (l0 :: E.modify lv fun h => h.set S (some (srcB l (q + 1) s2))) S (hlq l0 _) (hgq l0)
        have hs := fun k l0 => l14Sector l (q + 1 + 1) (nxS l (q + 1) s2) (by omega) k (lv + 1) (l0 :: E.modify lv fun h => h.set S (some (srcB l (q + 1 + 1) (nxS l (q + 1) s2)))) S (hlq l0 _) (by simpa using hgE hlv)
        obtain ⟨z1, z2⟩ := sec_len l (q + 1 + 1) (nxS l (q + 1) s2)
        have hm7 : nxV l (q + 1) s2 % 7 < 7 := Nat.mod_lt _ (by omega)
        simp only [dEnd, if_true]
        generalize sec l (q + 1 + 1) (nxS l (q + 1) s2) = z at *
        have h2 := fun k l0 => pick l z.p 2 z.sd (by omega) (by omega) k (lv + 1) (l0 :: E.modify lv fun h => h.set S (some (srcB l z.p z.sd))) S (hlq l0 _) (by simpa using hgE hlv)
        have hm2 : nxV l z.p z.sd % 2 < 2 := Nat.mod_lt _ (by omega)
        have c7 : ((7 : Nat) : Int) = 7 := rfl
        have c2 : ((2 : Nat) : Int) = 2 := rfl
        rw [c7] at h7
        rw [c2] at h2
        generalize nxV l z.p z.sd % 2 = w at *
        generalize nxV l (q + 1) s2 % 7 = u at *
        generalize nxS l z.p z.sd = s4 at *
        generalize nxS l (q + 1) s2 = s3 at *
        have e7 : IntKind.wrap .i64 ((u : Int) - 1) = (u : Int) - 1 := wrap64 ⟨by omega, by omega⟩
        have happ := rowsP_app1 ps ((u : Int) - 1) ((B z.bs).extract w 64)
        have hBs : (B z.bs).size = 64 := by simpa using z1
        have hwle : w ≤ 64 := by omega
        have hwle' : (w : Int) ≤ 64 := by omega
        have hpl : (ps ++ [((u : Int) - 1, (B z.bs).extract w 64)]).length = j + 1 := by simp [b2]
        generalize B z.bs = Z at *
        generalize rowsP (ps ++ [((u : Int) - 1, Z.extract w 64)]) = R' at *
        generalize rowsP ps = R at *
        simp [tm, hD, rcall32, hx, h7, h2, rcall37, hs, modify_modify', set_set_same, e7, hBs, hwle, hwle', evalW, source, l2, happ, storeM, l1, a1, hpl, get_set]
        omega
      by_cases v1 : v = 1
      · subst v1
        obtain ⟨t0, ht0, ht1⟩ := a4 0 (by omega) (by simp; omega)
        have hg0 : ∀ h : 0 < (rowsT ss).length, (rowsT ss)[0]'h = [.str t0] := fun h => by
          obtain ⟨h1, h2⟩ := List.getElem?_eq_some_iff.1 ht0
          rw [rowsT_at h1, h2]
        have hss : ss.getD 0 ByteArray.empty = t0 := by rw [List.getD_eq_getElem?_getD, ht0]; rfl
        have hset := rowsT_set ss 0 (tl t0)
        have htl : t0.extract 1 64 = tl t0 := by unfold tl; rw [ht1]
        simp only [dEnd, hss]
        have l3 : (ss.set 0 (tl t0)).length = i := by simp [a1]
        generalize hR' : rowsT (ss.set 0 (tl t0)) = R' at *
        generalize rowsT ss = R at *
        have h0i : 0 < i := by omega
        simp [tm, hD, rcall32, hx, modify_modify', set_set_same, l1, hg0, ht1, htl, hset, storeM, l2, l3, b2, h0i]
        exact hR'.symm
      by_cases v2 : v = 2
      · subst v2
        simp [tm, hD, rcall32, hx, modify_modify', set_set_same, dEnd, storeM, l2, b2]
        rfl
      by_cases v3 : v = 3
      · subst v3
        have hde : dEnd l 3 ⟨ss, ps, q + 1, s2⟩ = mnI l 603 ⟨ss, ps, q + 1, s2⟩ := rfl
        rw [hde]
        clear hde
        generalize hM : mnI l 603 ⟨ss, ps, q + 1, s2⟩ = M at *
        simp [tm, hD, rcall32, hx, modify_modify', set_set_same]
        refine RunC_loop (fun y : DD => ⟨tm 99 [(0, .ptr (lv + 1) S 0 [] 0 0), (2, .ptr 0 0 0 [] 0 0), (3, .ptr 0 67328 0 [] 0 0)],
            hD .skp i y.ps.length (rowsT y.ss) (rowsP y.ps), E.modify lv fun h => h.set S (some (srcB l y.p y.sd))⟩)
          (fun y => y.ss = ss ∧ y.ps.length ≤ 602 ∧ y.p ≤ q + 1 + y.ps.length ∧ ∃ f, mnI l f y = M ∧ 602 < f + y.ps.length) (fun y => 602 - y.ps.length) ⟨ss, ps, q + 1, s2⟩ ⟨rfl, by simp; omega, by simp, 603, hM, by simp; omega⟩ (by simp; omega) (by simp [tm, hD, b2]) fun y hy _ => ?_
        obtain ⟨us, vs, a, b⟩ := y
        obtain ⟨hy1, hy2, hy3, f, hf, hf2⟩ := hy
        simp only at hy1 hy2 hy3 hf2
        subst hy1
        obtain ⟨f, rfl⟩ : ∃ g, f = g + 1 := ⟨f - 1, by omega⟩
        have h3 := fun k l0 => pick l a 3 b (by omega) (by omega) k (lv + 1) (l0 :: E.modify lv fun h => h.set S (some (srcB l a b))) S (hlq l0 _) (by simpa using hgE hlv)
        have c3 : ((3 : Nat) : Int) = 3 := rfl
        rw [c3] at h3
        have hm3 : nxV l a b % 3 < 3 := Nat.mod_lt _ (by omega)
        unfold mnI at hf
        simp only at hf
        generalize nxV l a b % 3 = u at *
        generalize nxS l a b = s4 at *
        have e3 : IntKind.wrap .i64 (599 + (u : Int)) = ((599 + u : Nat) : Int) := by rw [wrap64 ⟨by omega, by omega⟩]; omega
        have l3 := rowsP_len vs
        by_cases hc : vs.length < 599 + u
        · rw [if_pos hc] at hf
          have hc' : decide ((vs.length : Int) < ((599 + u : Nat) : Int)) = true := by simp; omega
          obtain ⟨t0, ht0, ht1⟩ := a4 0 (by omega) (by simp; omega)
          have hg0 : ∀ h : 0 < (rowsT us).length, (rowsT us)[0]'h = [.str t0] := fun h => by
            obtain ⟨h1, h2⟩ := List.getElem?_eq_some_iff.1 ht0
            rw [rowsT_at h1, h2]
          have hss : us.getD 0 ByteArray.empty = t0 := by rw [List.getD_eq_getElem?_getD, ht0]; rfl
          rw [hss] at hf
          have happ := rowsP_app1 vs 0 t0
          have h0i : 0 < i := by omega
          have hmm : 599 + u ≤ 601 := by omega
          generalize 599 + u = m at *
          generalize hR' : rowsP (vs ++ [(0, t0)]) = R' at *
          generalize rowsP vs = R at *
          generalize hR2 : rowsT us = R2 at *
          simp [tm, hD, rcall32, h3, modify_modify', set_set_same, e3, hc', hc, l1, hg0, h0i, l3, happ, evalW, source, storeM, get_set]
          refine ⟨by omega, ⟨us, vs ++ [(0, t0)], a + 1, s4⟩, ⟨rfl, by simp; omega, by simp; omega, f, hf, by simp; omega⟩, by simp; omega, by simp [hR', hR2]⟩
        · rw [if_neg hc] at hf
          have hc' : decide ((vs.length : Int) < ((599 + u : Nat) : Int)) = false := by simp; omega
          rw [← hf]
          generalize 599 + u = m at *
          simp [tm, hD, rcall32, h3, modify_modify', set_set_same, e3, hc', hc, l1, a1, l3, storeM, get_set]
      have w0 : ((v : Int) == 0) = false := by simp; omega
      have w1 : ((v : Int) == 1) = false := by simp; omega
      have w2 : ((v : Int) == 2) = false := by simp; omega
      have w3 : ((v : Int) == 3) = false := by simp; omega
      simp [tm, hD, rcall32, hx, modify_modify', set_set_same, w0, w1, w2, w3, dEnd, v0, v1, v2, v3, storeM, l1, l2, a1, b2]
end Go.Ae.R4
namespace Go.Ae.R4
set_option linter.unusedSimpArgs false
set_option linter.unusedVariables false
set_option maxHeartbeats 4000000 in
theorem drawRot (l : List UInt8) : ∃ ss ps, ∃ a b c : Nat, ss.length ≤ 5 ∧ ps.length ≤ 602 ∧ ∀ k, call code (k + 5) 9 [.rd true (rws encU l)] [] = some ⟨.tup [.agg [.sl 0 0 0 [] 0 ss.length, .sl 0 1 0 [] 0 ps.length], .int .i64 a, .int .i64 b, .int .i64 c], [⟨0, 1, false, true, rowsT ss⟩, ⟨0, 2, false, true, rowsP ps⟩], []⟩ := by
  have h0 := fun k => l00From k l
  have h1 := fun k lv E S hlv hg => pick l 0 6 0 (by omega) (by omega) k lv E S hlv hg
  have h2 := fun k lv E S hlv hg => pick l 1 65 (nxS l 0 0) (by omega) (by omega) k lv E S hlv hg
  have h3 := fun k lv E S hlv hg => pick257 l 2 (nxS l 1 (nxS l 0 0)) (by omega) k lv E S hlv hg
  have h4 := fun k lv E S hlv hg => l14Disk l 4 (nxS l 3 (nxS l 2 (nxS l 1 (nxS l 0 0)))) (by omega) k lv E S hlv hg
  obtain ⟨d1, d2⟩ := dsk3_len l 4 (nxS l 3 (nxS l 2 (nxS l 1 (nxS l 0 0))))
  generalize dsk3 l 4 (nxS l 3 (nxS l 2 (nxS l 1 (nxS l 0 0)))) = D at *
  refine ⟨D.ss, D.ps, nxV l 0 0 % 6, nxV l 1 (nxS l 0 0) % 65, bgV l 2 (nxS l 1 (nxS l 0 0)), d1, d2, fun k => call_run rfl fn9 rfl ?_⟩
  simp only [show (0 : Nat) + 1 = 1 from rfl, show (1 : Nat) + 1 = 2 from rfl, show (2 : Nat) + 2 = 4 from rfl, show (2 : Nat) + 1 = 3 from rfl] at h1 h2 h3
  generalize bgV l 2 (nxS l 1 (nxS l 0 0)) = c at *
  generalize nxS l 3 (nxS l 2 (nxS l 1 (nxS l 0 0))) = s3 at *
  generalize nxV l 1 (nxS l 0 0) % 65 = b at *
  generalize nxS l 1 (nxS l 0 0) = s2 at *
  generalize nxV l 0 0 % 6 = a at *
  generalize nxS l 0 0 = s1 at *
  have c6 : ((6 : Nat) : Int) = 6 := rfl
  have c65 : ((65 : Nat) : Int) = 65 := rfl
  have l1 := rowsT_len D.ss
  have l2 := rowsP_len D.ps
  rw [c6] at h1
  rw [c65] at h2
  have c0 : ((0 : Nat) : Int) = 0 := rfl
  have c1 : ((1 : Nat) : Int) = 1 := rfl
  have c2 : ((2 : Nat) : Int) = 2 := rfl
  have c4 : ((4 : Nat) : Int) = 4 := rfl
  simp only [srcB, c0, c1, c2, c4] at h0 h1 h2 h3 h4
  simp [F9, rcall31, h0, rcall32, h1, h2, h3, rcall33, h4, storeM, l1, l2]
set_option maxHeartbeats 4000000 in
theorem drawWrite (l : List UInt8) : ∃ ss ps, ∃ a : Nat, ∃ t : ByteArray, ss.length ≤ 5 ∧ ps.length ≤ 602 ∧ ∀ k, call code (k + 5) 12 [.rd true (rws encU l)] [] = some ⟨.tup [.agg [.sl 0 0 0 [] 0 ss.length, .sl 0 1 0 [] 0 ps.length], .int .i64 a, .str t], [⟨0, 1, false, true, rowsT ss⟩, ⟨0, 2, false, true, rowsP ps⟩], []⟩ := by
  have h0 := fun k => l00From k l
  have h1 := fun k lv E S hlv hg => pick l 0 6 0 (by omega) (by omega) k lv E S hlv hg
  have h2 := fun k lv E S hlv hg => l14Sector l 1 (nxS l 0 0) (by omega) k lv E S hlv hg
  obtain ⟨z1, z2⟩ := sec_len l 1 (nxS l 0 0)
  generalize sec l 1 (nxS l 0 0) = z at *
  have h3 := fun k lv E S hlv hg => one l z.p 10 z.sd (by omega) (by omega) k lv E S hlv hg
  have h4 := fun k lv E S hlv hg => l14Disk l (z.p + 1) (nxS l z.p z.sd) (by omega) k lv E S hlv hg
  obtain ⟨d1, d2⟩ := dsk3_len l (z.p + 1) (nxS l z.p z.sd)
  generalize dsk3 l (z.p + 1) (nxS l z.p z.sd) = D at *
  have c6 : ((6 : Nat) : Int) = 6 := rfl
  have c10 : ((10 : Nat) : Int) = 10 := rfl
  rw [c6] at h1
  rw [c10] at h3
  have l1 := rowsT_len D.ss
  have l2 := rowsP_len D.ps
  have c0 : ((0 : Nat) : Int) = 0 := rfl
  have c1 : ((1 : Nat) : Int) = 1 := rfl
  have hBs : (B z.bs).size = 64 := by simpa using z1
  refine ⟨D.ss, D.ps, nxV l 0 0 % 6, if (nxV l z.p z.sd % 10 == 0) = true then (B z.bs).extract 1 64 else B z.bs, d1, d2, fun k => call_run rfl fn12 rfl ?_⟩
  generalize nxV l z.p z.sd % 10 = v at *
  generalize nxS l z.p z.sd = s1 at *
  generalize nxV l 0 0 % 6 = a at *
  generalize nxS l 0 0 = s0 at *
  generalize B z.bs = Z at *
  generalize z.p + 1 = q at *
  simp only [srcB, c0, c1, show (0 : Nat) + 1 = 1 from rfl] at h0 h1 h2 h3 h4
  cases hv : (v == 0)
  · rw [hv] at h3
    simp [F12, rcall31, h0, rcall32, h1, rcall37, h2, rcall38, h3, rcall33, h4, storeM, l1, l2]
  · rw [hv] at h3
    simp [F12, rcall31, h0, rcall32, h1, rcall37, h2, rcall38, h3, rcall33, h4, storeM, l1, l2, hBs]
end Go.Ae.R4
