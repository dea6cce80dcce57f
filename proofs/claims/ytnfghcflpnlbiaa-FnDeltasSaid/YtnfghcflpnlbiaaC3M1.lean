/- The product of two elements, twice told. -/
import Derived.Test.YtnfghcflpnlbiaaAeL6
import Derived.Test.YtnfghcflpnlbiaaC3Code
namespace Go.Ae.C3
set_option linter.unusedSimpArgs false
set_option linter.unusedVariables false
def dbl (x : Nat) : Nat := if 255 < 2 * x then (2 * x) ^^^ 285 else 2 * x
def gml : Nat → Nat → Nat → Nat → Nat
  | 0, _, _, out => out
  | n + 1, a, b, out => gml n (dbl a) (b / 2) (if b % 2 = 1 then out ^^^ a else out)
/-- The product of two elements. -/
def gm (a b : Nat) : Nat := gml 8 a b 0
theorem gml_zero : ∀ (n a out : Nat), gml n a 0 out = out
  | 0, _, _ => rfl
  | n + 1, a, out => by simp [gml, gml_zero n]
theorem dbl_lt {x : Nat} (h : x < 256) : dbl x < 256 := by
  unfold dbl
  split
  · rename_i h1
    have h2 : 2 * x < 2 ^ 9 := by omega
    -- below 512, from 256 on: the topmost bit goes
    have : ∀ y, y < 512 → 255 < y → y ^^^ 285 < 256 := by decide +kernel
    exact this _ (by omega) h1
  · omega
theorem gml_lt : ∀ (n a b out : Nat), a < 256 → out < 256 → gml n a b out < 256
  | 0, _, _, out, _, h => h
  | n + 1, a, b, out, ha, ho => by
    simp only [gml]
    refine gml_lt n _ _ _ (dbl_lt ha) ?_
    split
    · exact Nat.xor_lt_two_pow (n := 8) ho ha
    · exact ho
theorem gm_lt {a b : Nat} (ha : a < 256) : gm a b < 256 := gml_lt 8 a b 0 ha (by decide)
theorem double (k : Nat) (x : Nat) (hx : x < 256) : call code (k + 1) 174 [.int .i64 x] [] = some ⟨.int .i64 (dbl x : Nat), [], []⟩ := by
  refine call_run rfl fn174 rfl ?_
  have e1 : IntKind.wrap .i64 ((x : Int) * 2) = ((2 * x : Nat) : Int) := by rw [wrap64 ⟨by omega, by omega⟩]; omega
  have e2 : gXor .i64 ((2 * x : Nat) : Int) 285 = (((2 * x) ^^^ 285 : Nat) : Int) := gXor64 (b := 285) (by omega) (by decide)
  unfold dbl
  generalize hy : 2 * x = y at e1 e2
  by_cases h : 255 < y
  · have hd : decide ((255 : Int) < (y : Int)) = true := by simp; omega
    simp [F174, e1, h, hd, e2]
  · have hd : decide ((255 : Int) < (y : Int)) = false := by simp; omega
    simp [F174, e1, h, hd]
theorem times (k : Nat) (a b : Nat) (ha : a < 256) (hb : b < 256) : call code (k + 2) 158 [.int .i64 a, .int .i64 b] [] = some ⟨.int .i64 (gm a b : Nat), [], []⟩ := by
  refine call_run rfl fn158 rfl ?_
  simp [F158]
  refine RunC_loop (fun q : Nat × Nat × Nat × Nat => ⟨[.int .i64 q.2.1, .int .i64 q.2.2.1, .undef, .undef, .undef, .int .i64 q.2.2.2] ++ List.replicate 13 .undef, [], []⟩)
    (fun q => q.2.1 < 256 ∧ q.2.2.1 < 2 ^ q.1 ∧ q.1 ≤ 8 ∧ q.2.2.2 < 256 ∧ gml q.1 q.2.1 q.2.2.1 q.2.2.2 = gm a b) (fun q => q.1) (8, a, b, 0) ⟨ha, by simpa using hb, Nat.le_refl 8, by simp, rfl⟩ (by simp) (by simp) fun q hq _ => ?_
  obtain ⟨m, a, b, out⟩ := q
  obtain ⟨h1, h2, h3, h4, h5⟩ := hq
  simp only at h1 h2 h3 h4 h5
  by_cases hz : b = 0
  · subst hz
    rw [gml_zero] at h5
    simp [h5]
  · have hp : 0 < b := by omega
    cases m with
    | zero => simp at h2; omega
    | succ m =>
      have hpw : 2 ^ (m + 1) ≤ 2 ^ 8 := Nat.pow_le_pow_right (by decide) h3
      have hb8 : b < 256 := Nat.lt_of_lt_of_le h2 hpw
      have e0 : ((b : Int).tmod 2) = ((b % 2 : Nat) : Int) := by simp [Int.tmod_eq_emod_of_nonneg]
      have e1 : IntKind.wrap .i64 ((b : Int) / 2) = ((b / 2 : Nat) : Int) := by
        rw [wrap64 ⟨by omega, by omega⟩]; rfl
      have e2 : gXor .i64 (out : Int) (a : Int) = ((out ^^^ a : Nat) : Int) := gXor64 (by omega) (by omega)
      have x1 : out ^^^ a < 256 := Nat.xor_lt_two_pow (n := 8) h4 h1
      have h2' : b < 2 * 2 ^ m := by rw [Nat.pow_succ] at h2; omega
      simp only [gml] at h5
      have hd := dbl_lt h1
      have hdb := fun k => double k a h1
      generalize hda : dbl a = da at h5 hd hdb
      generalize hx : out ^^^ a = x at h5 e2 x1
      generalize hb2 : b / 2 = b2 at h5 e1
      have h6 : b2 < 2 ^ m := by omega
      generalize hbm : b % 2 = bm at h5 e0
      by_cases hodd : bm = 1
      · subst hodd
        simp [hp, hz, e0, e1, e2, rcall174, hdb]
        refine ⟨m, da, b2, x, ⟨hd, h6, by omega, x1, ?_⟩, by omega, ⟨rfl, rfl, rfl⟩⟩
        simpa using h5
      · have hbm0 : bm = 0 := by omega
        subst hbm0
        simp [hp, hz, e0, e1, rcall174, hdb]
        refine ⟨m, da, b2, out, ⟨hd, h6, by omega, h4, ?_⟩, by omega, ⟨rfl, rfl, rfl⟩⟩
        simpa using h5
theorem l02Times (k : Nat) (a b : Nat) (ha : a < 256) (hb : b < 256) : call code (k + 1) 162 [.int .i64 a, .int .i64 b] [] = some ⟨.int .i64 (gm a b : Nat), [], []⟩ := by
  refine call_run rfl fn162 rfl ?_
  simp [F162]
  refine RunC_loop (fun q : Nat × Nat × Nat × Nat => ⟨[.int .i64 q.2.1, .int .i64 q.2.2.1, .undef, .undef, .undef, .int .i64 q.2.2.2, .int .i64 (8 - q.1 : Nat)] ++ List.replicate 19 .undef, [], []⟩)
    (fun q => q.2.1 < 256 ∧ q.2.2.1 < 256 ∧ q.1 ≤ 8 ∧ q.2.2.2 < 256 ∧ gml q.1 q.2.1 q.2.2.1 q.2.2.2 = gm a b) (fun q => q.1) (8, a, b, 0) ⟨ha, hb, Nat.le_refl 8, by simp, rfl⟩ (by simp) (by simp) fun q hq _ => ?_
  obtain ⟨m, a, b, out⟩ := q
  obtain ⟨h1, h2, h3, h4, h5⟩ := hq
  simp only at h1 h2 h3 h4 h5
  cases m with
  | zero => simp only [gml] at h5; simp [h5]
  | succ m =>
    have e0 : gAnd .i64 (b : Int) 1 = ((b % 2 : Nat) : Int) := by
      have := gAnd64 (a := b) (b := 1) (by omega) (by decide)
      rw [Nat.and_one_is_mod] at this; exact this
    have e1 : gShr .i64 (b : Int) 1 = ((b / 2 : Nat) : Int) := by
      have := gShrN (k := .i64) (a := b) (n := 1) (by decide)
      rw [show b >>> 1 = b / 2 from by simp [Nat.shiftRight_eq_div_pow]] at this; exact this
    have e2 : gXor .i64 (out : Int) (a : Int) = ((out ^^^ a : Nat) : Int) := gXor64 (by omega) (by omega)
    have x1 : out ^^^ a < 256 := Nat.xor_lt_two_pow (n := 8) h4 h1
    have e3 : gShl .i64 (a : Int) 1 = ((2 * a : Nat) : Int) := by
      show IntKind.wrap .i64 ((a : Int) * 2) = _
      rw [wrap64 ⟨by omega, by omega⟩]; omega
    have e4 : gXor .i64 ((2 * a : Nat) : Int) 285 = (((2 * a) ^^^ 285 : Nat) : Int) := gXor64 (b := 285) (by omega) (by decide)
    have hi : decide (((8 - (m + 1) : Nat) : Int) < 8) = true := by simp; omega
    have hi1 : IntKind.wrap .i64 (((8 - (m + 1) : Nat) : Int) + 1) = ((8 - m : Nat) : Int) := by rw [wrap64 ⟨by omega, by omega⟩]; omega
    have hd := dbl_lt h1
    simp only [gml] at h5
    have hb2 : b / 2 < 256 := by omega
    generalize hx : out ^^^ a = x at h5 e2 x1
    generalize b / 2 = b2 at h5 e1 hb2
    generalize hbm : b % 2 = bm at h5 e0
    generalize hii : 8 - (m + 1) = i0 at hi hi1
    generalize hi2 : 8 - m = i1 at hi1
    have hbm2 : bm = 0 ∨ bm = 1 := by omega
    unfold dbl at h5 hd
    generalize hy : 2 * a = y at e3 e4 h5 hd
    by_cases hc : 255 < y
    · have hc' : decide ((255 : Int) < (y : Int)) = true := by simp; omega
      simp only [hc, if_true] at h5 hd
      generalize hz : y ^^^ 285 = z at e4 h5 hd
      rcases hbm2 with rfl | rfl
      · simp [hi, hi1, e0, e1, e2, e3, e4, hc, hc', hii]
        exact ⟨m, z, b2, out, ⟨hd, hb2, by omega, h4, by simpa using h5⟩, by omega, ⟨rfl, rfl, rfl, hi2.symm ▸ rfl⟩⟩
      · simp [hi, hi1, e0, e1, e2, e3, e4, hc, hc', hii]
        exact ⟨m, z, b2, x, ⟨hd, hb2, by omega, x1, by simpa using h5⟩, by omega, ⟨rfl, rfl, rfl, hi2.symm ▸ rfl⟩⟩
    · have hc' : decide ((255 : Int) < (y : Int)) = false := by simp; omega
      simp only [hc, if_false] at h5 hd
      rcases hbm2 with rfl | rfl
      · simp [hi, hi1, e0, e1, e2, e3, e4, hc, hc', hii]
        exact ⟨m, y, b2, out, ⟨hd, hb2, by omega, h4, by simpa using h5⟩, by omega, ⟨rfl, rfl, rfl, hi2.symm ▸ rfl⟩⟩
      · simp [hi, hi1, e0, e1, e2, e3, e4, hc, hc', hii]
        exact ⟨m, y, b2, x, ⟨hd, hb2, by omega, x1, by simpa using h5⟩, by omega, ⟨rfl, rfl, rfl, hi2.symm ▸ rfl⟩⟩
end Go.Ae.C3
namespace Go.Ae.C3
set_option linter.unusedSimpArgs false
set_option linter.unusedVariables false
def pwl : Nat → Nat → Nat → Nat → Nat
  | 0, _, _, out => out
  | f + 1, a, n, out => pwl f (gm a a) (n / 2) (if n % 2 = 1 then gm out a else out)
/-- The inverse of an element that is not 0. -/
def inv (a : Nat) : Nat := pwl 8 a 254 1
theorem pwl_zero : ∀ (n a out : Nat), pwl n a 0 out = out
  | 0, _, _ => rfl
  | n + 1, a, out => by simp [pwl, pwl_zero n]
theorem pwl_lt : ∀ (n a b out : Nat), a < 256 → out < 256 → pwl n a b out < 256
  | 0, _, _, out, _, h => h
  | n + 1, a, b, out, ha, ho => by
    simp only [pwl]
    refine pwl_lt n _ _ _ (gm_lt ha) ?_
    split
    · exact gm_lt ho
    · exact ho
theorem inv_lt {a : Nat} (ha : a < 256) : inv a < 256 := pwl_lt 8 a 254 1 ha (by decide)
theorem power (k : Nat) (a : Nat) (ha : a < 256) : call code (k + 3) 173 [.int .i64 a, .int .i64 254] [] = some ⟨.int .i64 (inv a : Nat), [], []⟩ := by
  refine call_run rfl fn173 rfl ?_
  simp [F173]
  refine RunC_loop (fun q : Nat × Nat × Nat × Nat => ⟨[.int .i64 q.2.1, .int .i64 q.2.2.1, .undef, .undef, .undef, .int .i64 q.2.2.2] ++ List.replicate 14 .undef, [], []⟩)
    (fun q => q.2.1 < 256 ∧ q.2.2.1 < 2 ^ q.1 ∧ q.1 ≤ 8 ∧ q.2.2.2 < 256 ∧ pwl q.1 q.2.1 q.2.2.1 q.2.2.2 = inv a) (fun q => q.1) (8, a, 254, 1) ⟨ha, show 254 < 2 ^ 8 by decide, Nat.le_refl 8, by simp, rfl⟩ (by simp) (by simp) fun q hq _ => ?_
  obtain ⟨m, a, b, out⟩ := q
  obtain ⟨h1, h2, h3, h4, h5⟩ := hq
  simp only at h1 h2 h3 h4 h5
  by_cases hz : b = 0
  · subst hz
    rw [pwl_zero] at h5
    simp [h5]
  · have hp : 0 < b := by omega
    cases m with
    | zero => simp at h2; omega
    | succ m =>
      have hpw : 2 ^ (m + 1) ≤ 2 ^ 8 := Nat.pow_le_pow_right (by decide) h3
      have hb8 : b < 256 := Nat.lt_of_lt_of_le h2 hpw
      have e0 : ((b : Int).tmod 2) = ((b % 2 : Nat) : Int) := by simp [Int.tmod_eq_emod_of_nonneg]
      have e1 : IntKind.wrap .i64 ((b : Int) / 2) = ((b / 2 : Nat) : Int) := by
        rw [wrap64 ⟨by omega, by omega⟩]; rfl
      have h2' : b < 2 * 2 ^ m := by rw [Nat.pow_succ] at h2; omega
      have t1 := fun k => times k out a h4 h1
      have t2 := fun k => times k a a h1 h1
      have l1 := gm_lt (b := a) h4
      have l2 := gm_lt (b := a) h1
      simp only [pwl] at h5
      generalize gm out a = oa at h5 t1 l1
      generalize gm a a = aa at h5 t2 l2
      generalize hb2 : b / 2 = b2 at h5 e1
      have h6 : b2 < 2 ^ m := by omega
      generalize hbm : b % 2 = bm at h5 e0
      by_cases hodd : bm = 1
      · subst hodd
        simp [hp, hz, e0, e1, rcall158, t1, t2]
        exact ⟨m, aa, b2, oa, ⟨l2, h6, by omega, l1, by simpa using h5⟩, by omega, ⟨rfl, rfl, rfl⟩⟩
      · have hbm0 : bm = 0 := by omega
        subst hbm0
        simp [hp, hz, e0, e1, rcall158, t1, t2]
        exact ⟨m, aa, b2, out, ⟨l2, h6, by omega, h4, by simpa using h5⟩, by omega, ⟨rfl, rfl, rfl⟩⟩
theorem inverse (k : Nat) (a : Nat) (ha : a < 256) : call code (k + 4) 157 [.int .i64 a] [] = some ⟨.int .i64 (inv a : Nat), [], []⟩ := by
  refine call_run rfl fn157 rfl ?_
  simp [F157, rcall173, power _ a ha]
theorem l02Pow (k : Nat) (a : Nat) (ha : a < 256) : call code (k + 2) 175 [.int .i64 a, .int .i64 254] [] = some ⟨.int .i64 (inv a : Nat), [], []⟩ := by
  refine call_run rfl fn175 rfl ?_
  simp [F175]
  refine RunC_loop (fun q : Nat × Nat × Nat × Nat => ⟨[.int .i64 q.2.1, .int .i64 q.2.2.1, .undef, .undef, .undef, .int .i64 q.2.2.2] ++ List.replicate 14 .undef, [], []⟩)
    (fun q => q.2.1 < 256 ∧ q.2.2.1 < 2 ^ q.1 ∧ q.1 ≤ 8 ∧ q.2.2.2 < 256 ∧ pwl q.1 q.2.1 q.2.2.1 q.2.2.2 = inv a) (fun q => q.1) (8, a, 254, 1) ⟨ha, show 254 < 2 ^ 8 by decide, Nat.le_refl 8, by simp, rfl⟩ (by simp) (by simp) fun q hq _ => ?_
  obtain ⟨m, a, b, out⟩ := q
  obtain ⟨h1, h2, h3, h4, h5⟩ := hq
  simp only at h1 h2 h3 h4 h5
  by_cases hz : b = 0
  · subst hz
    rw [pwl_zero] at h5
    simp [h5]
  · have hp : 0 < b := by omega
    cases m with
    | zero => simp at h2; omega
    | succ m =>
      have hpw : 2 ^ (m + 1) ≤ 2 ^ 8 := Nat.pow_le_pow_right (by decide) h3
      have hb8 : b < 256 := Nat.lt_of_lt_of_le h2 hpw
      have e0 : ((b : Int).tmod 2) = ((b % 2 : Nat) : Int) := by simp [Int.tmod_eq_emod_of_nonneg]
      have e1 : IntKind.wrap .i64 ((b : Int) / 2) = ((b / 2 : Nat) : Int) := by
        rw [wrap64 ⟨by omega, by omega⟩]; rfl
      have h2' : b < 2 * 2 ^ m := by rw [Nat.pow_succ] at h2; omega
      have t1 := fun k => l02Times k out a h4 h1
      have t2 := fun k => l02Times k a a h1 h1
      have l1 := gm_lt (b := a) h4
      have l2 := gm_lt (b := a) h1
      simp only [pwl] at h5
      generalize gm out a = oa at h5 t1 l1
      generalize gm a a = aa at h5 t2 l2
      generalize hb2 : b / 2 = b2 at h5 e1
      have h6 : b2 < 2 ^ m := by omega
      generalize hbm : b % 2 = bm at h5 e0
      by_cases hodd : bm = 1
      · subst hodd
        simp [hp, hz, e0, e1, rcall162, t1, t2]
        exact ⟨m, aa, b2, oa, ⟨l2, h6, by omega, l1, by simpa using h5⟩, by omega, ⟨rfl, rfl, rfl⟩⟩
      · have hbm0 : bm = 0 := by omega
        subst hbm0
        simp [hp, hz, e0, e1, rcall162, t1, t2]
        exact ⟨m, aa, b2, out, ⟨l2, h6, by omega, h4, by simpa using h5⟩, by omega, ⟨rfl, rfl, rfl⟩⟩
theorem l02Inv (k : Nat) (a : Nat) (ha : a < 256) : call code (k + 3) 163 [.int .i64 a] [] = some ⟨.int .i64 (inv a : Nat), [], []⟩ := by
  refine call_run rfl fn163 rfl ?_
  simp [F163, rcall175, l02Pow _ a ha]
end Go.Ae.C3
namespace Go.Ae.C3
set_option linter.unusedSimpArgs false
set_option linter.unusedVariables false
@[simp] theorem heap_succ (ts : List AV) (l : Heap) (e : List Heap) (n : Nat) : St.heap ⟨ts, l, e⟩ (n + 1) = e.getD n [] := rfl
@[simp] theorem blk_one (ts : List AV) (l : Heap) (e : List Heap) (s : Nat) : St.blk ⟨ts, l, e⟩ 1 s = (match (e.getD 0 []).get s with | some (some b) => some b | _ => none) := rfl
@[simp] theorem blk_two (ts : List AV) (l : Heap) (e : List Heap) (s : Nat) : St.blk ⟨ts, l, e⟩ 2 s = (match (e.getD 1 []).get s with | some (some b) => some b | _ => none) := rfl
@[simp] theorem put_one (ts : List AV) (l l0 : Heap) (e : List Heap) (s : Nat) (b : Option Blk) : St.put ⟨ts, l, l0 :: e⟩ 1 s b = ⟨ts, l, l0.set s b :: e⟩ := rfl
@[simp] theorem put_two (ts : List AV) (l l0 l1 : Heap) (e : List Heap) (s : Nat) (b : Option Blk) : St.put ⟨ts, l, l0 :: l1 :: e⟩ 2 s b = ⟨ts, l, l0 :: l1.set s b :: e⟩ := rfl
attribute [simp] outR List.eraseDups List.eraseDupsBy List.eraseDupsBy.loop List.idxOf List.findIdx List.findIdx.go
attribute [simp] callView
def rowsZ (l : List Int) : List (List AV) := l.map fun n => [AV.int .i64 n]
theorem rowsZ_len (l : List Int) : (rowsZ l).length = l.length := by simp [rowsZ]
theorem rowsZ_at {l : List Int} {i : Nat} (h : i < l.length) (h' : i < (rowsZ l).length) : (rowsZ l)[i]'h' = [.int .i64 l[i]] := by simp [rowsZ]
theorem rowsZ_set (l : List Int) (i : Nat) (x : Int) : (rowsZ l).set i [.int .i64 x] = rowsZ (l.set i x) := by simp [rowsZ]
theorem idx_succ {i n : Nat} (h : i < n) (hn : n ≤ 4000000) : IntKind.wrap .i64 ((i : Int) + 1) = ((i + 1 : Nat) : Int) := by rw [wrap64 ⟨by omega, by omega⟩]; omega


end Go.Ae.C3
namespace Go.Ae.C3
set_option linter.unusedSimpArgs false
set_option linter.unusedVariables false
/-- A row of a matrix: a part of its cells. -/
theorem row (k : Nat) (l : Heap) (S : Nat) (h : Int) (w i m : Nat) (ws : List Int) (hlen : ws.length = m) (hw : w ≤ 1000) (hi : (i + 1) * w ≤ ws.length) (hn : ws.length ≤ 4000000) (hl : l.get S = some (some ⟨0, 1, false, true, rowsZ ws⟩)) (hi2 : i ≤ 1000) :
    call code (k + 1) 155 [.agg [.int .i64 h, .int .i64 w, .sl 1 S 0 [] 0 m], .int .i64 i] [l] = some ⟨.sl 1 S 0 [] (i * w) w, [], [l]⟩ := by
  subst hlen
  refine call_run rfl fn155 rfl ?_
  have hm1 : i * w ≤ 4000000 := by rw [Nat.add_mul] at hi; omega
  have e1 : IntKind.wrap .i64 ((i : Int) * (w : Int)) = ((i * w : Nat) : Int) := by rw [show (i : Int) * (w : Int) = ((i * w : Nat) : Int) by simp, wrap64 ⟨by omega, by omega⟩]
  have e2 : IntKind.wrap .i64 ((i : Int) + 1) = ((i + 1 : Nat) : Int) := by rw [wrap64 ⟨by omega, by omega⟩]; omega
  have e3 : IntKind.wrap .i64 (((i + 1 : Nat) : Int) * (w : Int)) = (((i + 1) * w : Nat) : Int) := by rw [show ((i + 1 : Nat) : Int) * (w : Int) = (((i + 1) * w : Nat) : Int) by simp, wrap64 ⟨by omega, by omega⟩]
  have hsub : (i + 1) * w - i * w = w := by rw [Nat.add_mul]; omega
  have hle : i * w ≤ (i + 1) * w := by rw [Nat.add_mul]; omega
  have hrl := rowsZ_len ws
  generalize hA : i * w = A at *
  generalize hB : (i + 1) * w = B at *
  generalize hI : i + 1 = I1 at *
  simp [F155, e1, e2, e3, hl, hrl, hi, hle, hsub]
def uz (n i : Nat) : List Int := (List.range (n * n)).map fun idx => if idx / n = idx % n ∧ idx / n < i then 1 else 0
theorem uz_len (n i : Nat) : (uz n i).length = n * n := by simp [uz]
theorem uz_set : ∀ n, n < 9 → ∀ i, i < n → (uz n i).set (i * n + i) 1 = uz n (i + 1) := by decide +kernel
theorem uz_lt : ∀ n, n < 9 → ∀ i, i < n → i * n + i < n * n ∧ (i + 1) * n ≤ n * n ∧ n * n ≤ 64 := by decide
theorem uz_zero : ∀ n, n < 9 → uz n 0 = List.replicate (n * n) 0 := by decide +kernel
theorem rowsZ_rep (m : Nat) : rowsZ (List.replicate m 0) = List.replicate m [.int .i64 0] := by simp [rowsZ]
theorem unit (k : Nat) (n : Nat) (hn : 1 ≤ n ∧ n < 9) : call code (k + 2) 154 [.int .i64 n] [] = some ⟨.agg [.int .i64 n, .int .i64 n, .sl 0 0 0 [] 0 (n * n)], [⟨0, 1, false, true, rowsZ (uz n n)⟩], []⟩ := by
  refine call_run rfl fn154 rfl ?_
  have hnn : n * n ≤ 64 := (uz_lt n hn.2 0 hn.1).2.2
  have e1 : IntKind.wrap .i64 ((n : Int) * (n : Int)) = ((n * n : Nat) : Int) := by rw [show (n : Int) * (n : Int) = ((n * n : Nat) : Int) by simp, wrap64 ⟨by omega, by omega⟩]
  have hz := uz_zero n hn.2
  have hlt := uz_lt n hn.2
  have hset := uz_set n hn.2
  have hul := uz_len n
  have hrow := fun k l S i (hi : i < n) => row k l S n n i (n * n) (uz n i) (hul i) (by omega) (by rw [hul]; exact (hlt i hi).2.1) (by rw [hul]; omega)
  generalize n * n = nn at *
  simp [F154, e1, zeroRow]
  refine ⟨⟨by omega, by omega⟩, ?_⟩
  refine RunC_loop (fun i : Nat => ⟨[.undef, .undef, .ptr 0 0 0 [] 0 0, .ptr 0 67328 0 [] 0 0, .undef, .undef, .undef, .undef, .undef, .undef, .undef, .undef, .int .i64 n, .int .i64 i] ++ List.replicate 9 .undef,
      [(0, some ⟨0, 3, true, false, [[.int .i64 0, .int .i64 0, .sl 0 3 0 [] 0 0]]⟩), (3, some ⟨0, 1, false, true, []⟩), (66816, some ⟨0, 1, false, true, rowsZ (uz n i)⟩), (67328, some ⟨0, 3, true, false, [[.int .i64 n, .int .i64 n, .sl 0 66816 0 [] 0 nn]]⟩), (67331, some ⟨0, 1, false, true, []⟩)], []⟩)
    (fun i => i ≤ n) (fun i => n - i) 0 (Nat.zero_le _) (by simp; omega) (by simp [hz, rowsZ_rep]) fun i hi _ => ?_
  by_cases hlt' : i < n
  · obtain ⟨q1, q2, q3⟩ := hlt i hlt'
    have hs := idx_succ hlt' (by omega)
    have hg : ∀ h, (rowsZ (uz n i))[i * n + i]'h = [AV.int .i64 ((uz n i)[i * n + i]'(by rw [hul]; exact q1))] := fun h => rowsZ_at _ h
    have hrl : (rowsZ (uz n i)).length = nn := by rw [rowsZ_len, hul]
    have hst : (rowsZ (uz n i)).set (i * n + i) [.int .i64 1] = rowsZ (uz n (i + 1)) := by rw [rowsZ_set, hset i hlt']
    have hr := fun k l S hl => hrow k l S i hlt' hl (by omega)
    simp [hlt', hs, rcall155, hr, q1, hrl, hg, hst]
    exact ⟨i + 1, by omega, by omega, by simp, rfl⟩
  · have : i = n := by omega
    subst this
    simp
def vz (n c : Nat) : List Int := (List.range c).map fun i => if i % (n + 1) = 0 then 1 else 0
theorem vz_eq : ∀ n, n < 9 → vz n (n * n) = uz n n := by decide +kernel
theorem vz_len (n c : Nat) : (vz n c).length = c := by simp [vz]
theorem vz_one {n c : Nat} (h : c % (n + 1) = 0) : rowsZ (vz n c) ++ [[.int .i64 1]] = rowsZ (vz n (c + 1)) := by simp [vz, List.range_succ, rowsZ, h]
theorem vz_nul {n c : Nat} (h : ¬ c % (n + 1) = 0) : rowsZ (vz n c) ++ [[.int .i64 0]] = rowsZ (vz n (c + 1)) := by simp [vz, List.range_succ, rowsZ, h]
theorem l03Unit (k : Nat) (n : Nat) (hn : 1 ≤ n ∧ n < 9) : call code (k + 1) 161 [.int .i64 n] [] = some ⟨.agg [.int .i64 n, .int .i64 n, .sl 0 0 0 [] 0 (n * n)], [⟨0, 1, false, true, rowsZ (uz n n)⟩], []⟩ := by
  refine call_run rfl fn161 rfl ?_
  have hnn : n * n ≤ 64 := (uz_lt n hn.2 0 hn.1).2.2
  have e1 : IntKind.wrap .i64 ((n : Int) * (n : Int)) = ((n * n : Nat) : Int) := by rw [show (n : Int) * (n : Int) = ((n * n : Nat) : Int) by simp, wrap64 ⟨by omega, by omega⟩]
  have e2 : IntKind.wrap .i64 ((n : Int) + 1) = ((n + 1 : Nat) : Int) := by rw [wrap64 ⟨by omega, by omega⟩]; omega
  have hv := vz_eq n hn.2
  generalize n * n = nn at *
  simp [F161]
  refine RunC_loop (fun i : Nat => ⟨[.int .i64 n, .undef, .ptr 0 0 0 [] 0 0, .ptr 0 66304 0 [] 0 0, .int .i64 i] ++ List.replicate 26 .undef,
      [(0, some ⟨0, 3, true, false, [[.int .i64 0, .int .i64 0, .sl 0 3 0 [] 0 0]]⟩), (3, some ⟨0, 1, false, true, []⟩), (66304, some ⟨0, 3, true, false, [[.int .i64 n, .int .i64 n, .sl 0 66563 0 [] 0 i]]⟩), (66307, some ⟨0, 1, false, true, []⟩), (66563, some ⟨0, 1, false, true, rowsZ (vz n i)⟩)], []⟩)
    (fun i => i ≤ nn) (fun i => nn - i) 0 (Nat.zero_le _) (by simp; omega) (by simp [vz, rowsZ]) fun i hi _ => ?_
  have hrl : (rowsZ (vz n i)).length = i := by rw [rowsZ_len, vz_len]
  by_cases hlt' : i < nn
  · have hs := idx_succ hlt' (by omega)
    have e3 : ((i : Int).tmod ((n + 1 : Nat) : Int)) = ((i % (n + 1) : Nat) : Int) := by rw [Int.tmod_eq_emod_of_nonneg (by omega)]; rfl
    have hz : ¬ ((n + 1 : Nat) : Int) = 0 := by omega
    by_cases hm : i % (n + 1) = 0
    · have hv1 := vz_one hm
      generalize hn1 : n + 1 = n1 at *
      generalize hmm : i % n1 = m at *
      subst hm
      simp [hlt', hs, e1, e2, e3, hz, hrl, source, evalW, hv1]
      exact ⟨by omega, ⟨by omega, by omega⟩, i + 1, by omega, by omega, by simp, rfl, rfl⟩
    · have hv1 := vz_nul hm
      generalize hn1 : n + 1 = n1 at *
      generalize hmm : i % n1 = m at *
      have hmb : ((m : Int) == 0) = false := by simpa using hm
      simp [hlt', hs, e1, e2, e3, hz, hrl, source, evalW, hv1, hmb]
      exact ⟨by omega, ⟨by omega, by omega⟩, i + 1, by omega, by omega, by simp, rfl, rfl⟩
  · have : i = nn := by omega
    subst this
    simp [e1, hv]
end Go.Ae.C3
namespace Go.Ae.C3
set_option linter.unusedSimpArgs false
set_option linter.unusedVariables false
def entry (k a b : Nat) : Nat := gm (k + a) (inv ((k + a) ^^^ b))
def gz (k i j : Nat) : List Int := uz k k ++ ((List.range i).flatMap fun a => (List.range k).map fun b => ((entry k a b : Nat) : Int)) ++ ((List.range j).map fun b => ((entry k i b : Nat) : Int))
theorem sum_const (k : Nat) : ∀ i, ((List.range i).map fun _ => k).sum = i * k
  | 0 => by simp
  | i + 1 => by rw [List.range_succ, List.map_append, List.sum_append, sum_const k i]; simp [Nat.add_mul]
theorem gz_len (k i j : Nat) : (gz k i j).length = k * k + i * k + j := by
  simp [gz, uz, List.length_flatMap, sum_const]; omega
theorem gz_row (k i : Nat) : gz k i k = gz k (i + 1) 0 := by
  simp [gz, List.range_succ]
theorem gz_one (k i j : Nat) : rowsZ (gz k i j) ++ [[.int .i64 ((entry k i j : Nat) : Int)]] = rowsZ (gz k i (j + 1)) := by
  simp [gz, List.range_succ, rowsZ]
theorem generator (n : Nat) (k m : Nat) (hk : 1 ≤ k) (hm : k + m ≤ 8) :
    call code (n + 5) 129 [.int .i64 k, .int .i64 m] [] = some ⟨.agg [.int .i64 (k + m : Nat), .int .i64 k, .sl 0 0 0 [] 0 (gz k m 0).length], [⟨0, 1, false, true, rowsZ (gz k m 0)⟩], []⟩ := by
  refine call_run rfl fn129 rfl ?_
  have hu := fun n => unit n k ⟨hk, by omega⟩
  have e1 : IntKind.wrap .i64 ((k : Int) + (m : Int)) = ((k + m : Nat) : Int) := by rw [wrap64 ⟨by omega, by omega⟩]; omega
  have hu0 : uz k k = gz k 0 0 := by simp [gz]
  have hul : k * k = (gz k 0 0).length := by rw [gz_len]; simp
  rw [hu0, hul] at hu
  generalize hkm : k + m = km at e1 ⊢
  simp [F129, rcall154, hu, e1]
  refine RunC_loop (fun i : Nat => ⟨[.int .i64 k, .undef, .undef, .undef, .ptr 0 0 0 [] 0 0, .ptr 0 66048 0 [] 0 0, .undef, .undef, .undef, .undef, .undef, .undef, .undef, .undef, .int .i64 m, .int .i64 i] ++ List.replicate 24 .undef,
      [(0, some ⟨0, 3, true, false, [[.int .i64 0, .int .i64 0, .sl 0 3 0 [] 0 0]]⟩), (3, some ⟨0, 1, false, true, []⟩), (65792, some ⟨0, 1, false, true, rowsZ (gz k i 0)⟩), (66048, some ⟨0, 3, true, false, [[.int .i64 km, .int .i64 k, .sl 0 65792 0 [] 0 (gz k i 0).length]]⟩), (66051, some ⟨0, 1, false, true, []⟩)], []⟩)
    (fun i => i ≤ m) (fun i => m - i) 0 (Nat.zero_le _) (by simp; omega) (by simp) fun i hi _ => ?_
  by_cases hlt : i < m
  · simp [hlt]
    refine RunC_loop (fun j : Nat => ⟨[.int .i64 k, .undef, .undef, .undef, .ptr 0 0 0 [] 0 0, .ptr 0 66048 0 [] 0 0, .int .i64 i, .undef, .undef, .undef, .undef, .undef, .undef, .undef, .int .i64 m, .int .i64 i, .undef, .undef, .int .i64 k, .int .i64 j] ++ List.replicate 20 .undef,
      [(0, some ⟨0, 3, true, false, [[.int .i64 0, .int .i64 0, .sl 0 3 0 [] 0 0]]⟩), (3, some ⟨0, 1, false, true, []⟩), (65792, some ⟨0, 1, false, true, rowsZ (gz k i j)⟩), (66048, some ⟨0, 3, true, false, [[.int .i64 km, .int .i64 k, .sl 0 65792 0 [] 0 (gz k i j).length]]⟩), (66051, some ⟨0, 1, false, true, []⟩)], []⟩)
      (fun j => j ≤ k) (fun j => k - j) 0 (Nat.zero_le _) (by simp; omega) (by simp) fun j hj _ => ?_
    by_cases hlt2 : j < k
    · have e2 : IntKind.wrap .i64 ((k : Int) + (i : Int)) = ((k + i : Nat) : Int) := by rw [wrap64 ⟨by omega, by omega⟩]; omega
      have e3 : gXor .i64 ((k + i : Nat) : Int) (j : Int) = (((k + i) ^^^ j : Nat) : Int) := gXor64 (by omega) (by omega)
      have x1 : (k + i) ^^^ j < 256 := Nat.xor_lt_two_pow (n := 8) (by omega) (by omega)
      have hi1 := fun n => inverse n ((k + i) ^^^ j) x1
      have hi2 := inv_lt x1
      have ht := fun n => times n (k + i) (inv ((k + i) ^^^ j)) (by omega) hi2
      have hone := gz_one k i j
      have hl1 := gz_len k i j
      have hl2 := gz_len k i (j + 1)
      have hs := idx_succ hlt2 (by omega)
      have hrl := rowsZ_len (gz k i j)
      have hb : k * k ≤ 64 := (uz_lt k (by omega) 0 (by omega)).2.2
      have hb2 : i * k ≤ 8 * 8 := Nat.mul_le_mul (by omega) (by omega)
      have hll : (gz k i j).length ≤ 1000 := by omega
      have hl3 : (gz k i j).length + 1 = (gz k i (j + 1)).length := by omega
      simp only [entry] at hone
      generalize gm (k + i) (inv ((k + i) ^^^ j)) = pr at *
      generalize inv ((k + i) ^^^ j) = iv at *
      generalize (k + i) ^^^ j = xr at *
      generalize hki : k + i = ki at *
      generalize (gz k i j).length = L at *
      simp [hlt2, hs, e2, e3, rcall157, hi1, rcall158, ht, source, evalW, hrl, hone]
      exact ⟨⟨by omega, by omega⟩, j + 1, by omega, by omega, by simp, rfl, hl3⟩
    · have : j = k := by omega
      subst this
      have hs := idx_succ hlt (by omega)
      have hrow := gz_row j i
      simp [hs]
      exact ⟨i + 1, by omega, by omega, by simp, by rw [hrow], by rw [hrow]⟩
  · have : i = m := by omega
    subst this
    simp
theorem l03Code (n : Nat) (k m : Nat) (hk : 1 ≤ k) (hm : k + m ≤ 8) :
    call code (n + 4) 133 [.int .i64 k, .int .i64 m] [] = some ⟨.agg [.int .i64 (k + m : Nat), .int .i64 k, .sl 0 0 0 [] 0 (gz k m 0).length], [⟨0, 1, false, true, rowsZ (gz k m 0)⟩], []⟩ := by
  refine call_run rfl fn133 rfl ?_
  have hu := fun n => l03Unit n k ⟨hk, by omega⟩
  have e1 : IntKind.wrap .i64 ((k : Int) + (m : Int)) = ((k + m : Nat) : Int) := by rw [wrap64 ⟨by omega, by omega⟩]; omega
  have hu0 : uz k k = gz k 0 0 := by simp [gz]
  have hul : k * k = (gz k 0 0).length := by rw [gz_len]; simp
  rw [hu0, hul] at hu
  generalize hkm : k + m = km at e1 ⊢
  simp [F133, rcall161, hu, e1]
  refine RunC_loop (fun i : Nat => ⟨[.int .i64 k, .int .i64 m, .undef, .undef, .ptr 0 0 0 [] 0 0, .ptr 0 66048 0 [] 0 0, .int .i64 i] ++ List.replicate 33 .undef,
      [(0, some ⟨0, 3, true, false, [[.int .i64 0, .int .i64 0, .sl 0 3 0 [] 0 0]]⟩), (3, some ⟨0, 1, false, true, []⟩), (65792, some ⟨0, 1, false, true, rowsZ (gz k i 0)⟩), (66048, some ⟨0, 3, true, false, [[.int .i64 km, .int .i64 k, .sl 0 65792 0 [] 0 (gz k i 0).length]]⟩), (66051, some ⟨0, 1, false, true, []⟩)], []⟩)
    (fun i => i ≤ m) (fun i => m - i) 0 (Nat.zero_le _) (by simp; omega) (by simp) fun i hi _ => ?_
  by_cases hlt : i < m
  · simp [hlt]
    refine RunC_loop (fun j : Nat => ⟨[.int .i64 k, .int .i64 m, .undef, .undef, .ptr 0 0 0 [] 0 0, .ptr 0 66048 0 [] 0 0, .int .i64 i, .int .i64 j] ++ List.replicate 32 .undef,
      [(0, some ⟨0, 3, true, false, [[.int .i64 0, .int .i64 0, .sl 0 3 0 [] 0 0]]⟩), (3, some ⟨0, 1, false, true, []⟩), (65792, some ⟨0, 1, false, true, rowsZ (gz k i j)⟩), (66048, some ⟨0, 3, true, false, [[.int .i64 km, .int .i64 k, .sl 0 65792 0 [] 0 (gz k i j).length]]⟩), (66051, some ⟨0, 1, false, true, []⟩)], []⟩)
      (fun j => j ≤ k) (fun j => k - j) 0 (Nat.zero_le _) (by simp; omega) (by simp) fun j hj _ => ?_
    by_cases hlt2 : j < k
    · have e2 : IntKind.wrap .i64 ((k : Int) + (i : Int)) = ((k + i : Nat) : Int) := by rw [wrap64 ⟨by omega, by omega⟩]; omega
      have e3 : gXor .i64 ((k + i : Nat) : Int) (j : Int) = (((k + i) ^^^ j : Nat) : Int) := gXor64 (by omega) (by omega)
      have x1 : (k + i) ^^^ j < 256 := Nat.xor_lt_two_pow (n := 8) (by omega) (by omega)
      have hi1 := fun n => l02Inv n ((k + i) ^^^ j) x1
      have hi2 := inv_lt x1
      have ht := fun n => l02Times n (k + i) (inv ((k + i) ^^^ j)) (by omega) hi2
      have hone := gz_one k i j
      have hl1 := gz_len k i j
      have hl2 := gz_len k i (j + 1)
      have hs := idx_succ hlt2 (by omega)
      have hrl := rowsZ_len (gz k i j)
      have hb : k * k ≤ 64 := (uz_lt k (by omega) 0 (by omega)).2.2
      have hb2 : i * k ≤ 8 * 8 := Nat.mul_le_mul (by omega) (by omega)
      have hll : (gz k i j).length ≤ 1000 := by omega
      have hl3 : (gz k i j).length + 1 = (gz k i (j + 1)).length := by omega
      simp only [entry] at hone
      generalize gm (k + i) (inv ((k + i) ^^^ j)) = pr at *
      generalize inv ((k + i) ^^^ j) = iv at *
      generalize (k + i) ^^^ j = xr at *
      generalize hki : k + i = ki at *
      generalize (gz k i j).length = L at *
      simp [hlt2, hs, e2, e3, rcall163, hi1, rcall162, ht, source, evalW, hrl, hone]
      exact ⟨⟨by omega, by omega⟩, j + 1, by omega, by omega, by simp, rfl, hl3⟩
    · have : j = k := by omega
      subst this
      have hs := idx_succ hlt (by omega)
      have hrow := gz_row j i
      simp [hs]
      exact ⟨i + 1, by omega, by omega, by simp, by rw [hrow], by rw [hrow]⟩
  · have : i = m := by omega
    subst this
    simp
end Go.Ae.C3
namespace Go.Ae.C3
set_option linter.unusedSimpArgs false
set_option linter.unusedVariables false
@[simp] theorem evalW_callv (O : Oracle) (md : Nat → Mode) (st : St) (base : Nat) (x : X) (args : List X) (fl : Bool) : evalW O md st base (.callv x args fl) = match evalX st x with
    | .fn f caps => match md f with
      | .val => match callVal O st base f (evalXs st args ++ caps) fl with
        | some (v, n) => match addNews st n with
          | some st' => some (v, st')
          | none => none
        | none => none
      | .view => match callView O st f (evalXs st args ++ caps) with
        | some v => some (v, st)
        | none => none
      | .ref => callRef O st base f (evalXs st args ++ caps) fl
    | _ => none := rfl
theorem between (k : Nat) (a b c : Int) : call code (k + 1) 86 [.int .i64 a, .int .i64 b, .int .i64 c] [] = some ⟨.bool (inB a b c), [], []⟩ := by
  refine call_run rfl fn86 rfl ?_
  simp [F86]
  repeat' ((first | apply RunG_ncase | apply RunB_ncase | apply RunG_case | apply RunB_case | apply RunP_case) <;> intro h <;> simp [h])
  all_goals (simp_all [inB] <;> omega)
theorem l00In (k : Nat) (a b c : Int) : call code (k + 1) 77 [.int .i64 a, .int .i64 b, .int .i64 c] [] = some ⟨.bool (inB a b c), [], []⟩ := by
  refine call_run rfl fn77 rfl ?_
  simp [F77]
  repeat' ((first | apply RunG_ncase | apply RunB_ncase | apply RunG_case | apply RunB_case | apply RunP_case) <;> intro h <;> simp [h])
  all_goals (simp_all [inB] <;> omega)
def elB (c : Int) : Bool := inB c 0 255
end Go.Ae.C3
namespace Go.Ae.C3
set_option linter.unusedSimpArgs false
set_option linter.unusedVariables false
def castL (l : List Nat) : List Int := l.map fun (n : Nat) => (n : Int)
theorem getD_lt {an : List Nat} (h : ∀ x ∈ an, x < 256) (i : Nat) : an.getD i 0 < 256 := by
  by_cases hi : i < an.length
  · rw [List.getD_eq_getElem?_getD, List.getElem?_eq_getElem hi]; exact h _ (List.getElem_mem hi)
  · rw [List.getD_eq_getElem?_getD, List.getElem?_eq_none (by omega)]; decide
theorem castL_len (l : List Nat) : (castL l).length = l.length := by simp [castL]
theorem rowsC_at {an : List Nat} {i : Nat} (h : i < an.length) (h' : i < (rowsZ (castL an)).length) : (rowsZ (castL an))[i]'h' = [.int .i64 ((an.getD i 0 : Nat) : Int)] := by
  simp [rowsZ, castL, List.getD_eq_getElem?_getD, List.getElem?_eq_getElem h]
def matB (h w : Int) (ws : List Int) : Bool := inB h 1 8 && inB w 1 8 && ((ws.length : Int) == h * w) && ws.all elB
theorem hw_wrap {h w : Int} (h1 : inB h 1 8 = true) (h2 : inB w 1 8 = true) : IntKind.wrap .i64 (h * w) = h * w := by
  simp [inB] at h1 h2
  have b1 : h * w ≤ 8 * 8 := Int.mul_le_mul h1.2 h2.2 (by omega) (by omega)
  have b2 : 0 ≤ h * w := Int.mul_nonneg (by omega) (by omega)
  exact wrap64 ⟨by omega, by omega⟩
def prt (an : List Nat) (A B : Nat) : List Nat := (an.take B).drop A
theorem prt_get {an : List Nat} {A B j : Nat} (h : A + j < B) : (prt an A B).getD j 0 = an.getD (A + j) 0 := by
  simp [prt, List.getD_eq_getElem?_getD, List.getElem?_drop, List.getElem?_take_of_lt h]
theorem prt_len {an : List Nat} {A B : Nat} (h : B ≤ an.length) : (prt an A B).length = B - A := by simp [prt]; omega
theorem prt_rows (an : List Nat) (A B : Nat) : ((rowsZ (castL an)).take B).drop A = rowsZ (castL (prt an A B)) := by simp [rowsZ, castL, prt, List.map_take, List.map_drop]
/-- A row of a matrix that is only read. -/
theorem rowRd (k : Nat) (l : Heap) (h : Int) (w i : Nat) (an : List Nat) (hw : w ≤ 1000) (hi : (i + 1) * w ≤ an.length) (hn : an.length ≤ 4000000) (hi2 : i ≤ 1000) :
    call code (k + 1) 155 [.agg [.int .i64 h, .int .i64 w, .rd true (rowsZ (castL an))], .int .i64 i] [l] = some ⟨.rd true (rowsZ (castL (prt an (i * w) ((i + 1) * w)))), [], [l]⟩ := by
  refine call_run rfl fn155 rfl ?_
  have hm1 : i * w ≤ 4000000 := by rw [Nat.add_mul] at hi; omega
  have e1 : IntKind.wrap .i64 ((i : Int) * (w : Int)) = ((i * w : Nat) : Int) := by rw [show (i : Int) * (w : Int) = ((i * w : Nat) : Int) by simp, wrap64 ⟨by omega, by omega⟩]
  have e2 : IntKind.wrap .i64 ((i : Int) + 1) = ((i + 1 : Nat) : Int) := by rw [wrap64 ⟨by omega, by omega⟩]; omega
  have e3 : IntKind.wrap .i64 (((i + 1 : Nat) : Int) * (w : Int)) = (((i + 1) * w : Nat) : Int) := by rw [show ((i + 1 : Nat) : Int) * (w : Int) = (((i + 1) * w : Nat) : Int) by simp, wrap64 ⟨by omega, by omega⟩]
  have hle : i * w ≤ (i + 1) * w := by rw [Nat.add_mul]; omega
  have hrl : (rowsZ (castL an)).length = an.length := by rw [rowsZ_len, castL_len]
  have hp := prt_rows an (i * w) ((i + 1) * w)
  have hall : (rowsZ (castL an)).all (fun r => r.length == 1) = true := by simp [rowsZ]
  generalize hA : i * w = A at *
  generalize hB : (i + 1) * w = B at *
  generalize hI : i + 1 = I1 at *
  simp [F155, e1, e2, e3, hrl, hi, hle, hp]
  try (intro x hx; simp [rowsZ] at hx; obtain ⟨a, _, rfl⟩ := hx; rfl)
end Go.Ae.C3
namespace Go.Ae.C3
set_option linter.unusedSimpArgs false
set_option linter.unusedVariables false
def B (l : List UInt8) : ByteArray := ⟨l.toArray⟩
@[simp] theorem B_size (l : List UInt8) : (B l).size = l.length := by simp [B, ByteArray.size]
@[simp] theorem B_list (l : List UInt8) : (B l).data.toList = l := by simp [B]
theorem B_eta (s : ByteArray) : B s.data.toList = s := by cases s; simp [B]
theorem B_get (l : List UInt8) (i : Nat) : (B l)[i]? = l[i]? := by rw [bget, B_list]
@[simp] theorem B_at (l : List UInt8) (i : Nat) (h : i < (B l).size) : (B l)[i]'h = l[i]'(by simpa using h) := rfl
theorem B_mk (l : List UInt8) : (⟨l.toArray⟩ : ByteArray) = B l := rfl
def encB (b : UInt8) : List AV := [.int .u8 b.toNat]
theorem bytesOf_rws : ∀ l : List UInt8, bytesOf (rws encB l) = some l
  | [] => rfl
  | b :: l => by
    have h := bytesOf_rws l
    rw [rws_cons]
    simp [encB, bytesOf, h]
def scl (a : Nat) (l : List UInt8) : List UInt8 := l.map fun c => UInt8.ofNat (gm a c.toNat)
def sm (l r : List UInt8) : List UInt8 := List.zipWith (· ^^^ ·) l r
@[simp] theorem scl_len (a : Nat) (l : List UInt8) : (scl a l).length = l.length := by simp [scl]
theorem sm_len {l r : List UInt8} (h : l.length = r.length) : (sm l r).length = l.length := by simp [sm, h]
theorem gXor8 (a b : UInt8) : gXor .u8 a.toNat b.toNat = ((a ^^^ b).toNat : Int) := by
  have ha := a.toNat_lt
  have hb := b.toNat_lt
  have h : a.toNat ^^^ b.toNat < 2 ^ 8 := Nat.xor_lt_two_pow (by omega) (by omega)
  have e : (BitVec.ofInt 8 (a.toNat : Int) ^^^ BitVec.ofInt 8 (b.toNat : Int)).toNat = a.toNat ^^^ b.toNat := by
    rw [BitVec.toNat_xor, BitVec.ofInt_natCast, BitVec.ofInt_natCast, BitVec.toNat_ofNat, BitVec.toNat_ofNat, Nat.mod_eq_of_lt (by omega), Nat.mod_eq_of_lt (by omega)]
  show IntKind.wrap .u8 ((BitVec.ofInt 8 (a.toNat : Int) ^^^ BitVec.ofInt 8 (b.toNat : Int)).toNat : Int) = _
  rw [e, UInt8.toNat_xor]
  simp only [IntKind.wrap, IntKind.signed, IntKind.bits]
  simp
  omega
theorem wrap8 {n : Nat} (h : n < 256) : IntKind.wrap .u8 (n : Int) = ((UInt8.ofNat n).toNat : Int) := by
  simp only [IntKind.wrap, IntKind.signed, IntKind.bits]
  simp
theorem wrap64u (c : UInt8) : IntKind.wrap .i64 (c.toNat : Int) = ((c.toNat : Nat) : Int) := by
  have := c.toNat_lt
  rw [wrap64 ⟨by omega, by omega⟩]
theorem summed (k : Nat) (l r : List UInt8) (hl : l.length = r.length) (hn : l.length ≤ 1048576) : call code (k + 1) 147 [.str (B l), .str (B r)] [] = some ⟨.str (B (sm l r)), [], []⟩ := by
  refine call_run rfl fn147 rfl ?_
  have hz : List.replicate l.length [AV.int .u8 0] = rws encB (List.replicate l.length 0) := by simp [rws_rep, encB]
  have hrl : (List.replicate l.length (0 : UInt8)).length = l.length := by simp
  simp [F147, zeroRow, hz]
  refine ⟨by omega, ?_⟩
  let f : Nat → UInt8 := fun i => (sm l r).getD i 0
  refine RunC_loop (fun i : Nat => ⟨tm 28 [(0, .str (B l)), (1, .str (B r)), (5, .sl 0 66048 0 [] 0 l.length), (11, .int .i64 l.length), (12, .int .i64 i)], [(66048, some ⟨0, 1, false, true, rws encB (mix f (List.replicate l.length 0) i)⟩)], []⟩)
    (fun i => i ≤ l.length) (fun i => l.length - i) 0 (Nat.zero_le _) (by simp; omega) (by simp [tm, mix_zero]) fun i hi _ => ?_
  have hml : (mix f (List.replicate l.length 0) i).length = l.length := by rw [mix_len (by rw [hrl]; exact hi), hrl]
  by_cases hlt : i < l.length
  · have hs := idx_succ' hlt (by omega)
    have hri : i < r.length := by omega
    have hf : f i = l[i] ^^^ r[i] := by
      show (sm l r).getD i 0 = _
      rw [List.getD_eq_getElem?_getD, List.getElem?_eq_getElem (by rw [sm_len hl]; exact hlt)]
      simp [sm]
    have hset : (rws encB (mix f (List.replicate l.length 0) i)).set i (encB (f i)) = rws encB (mix f (List.replicate l.length 0) (i + 1)) := by rw [rws_set, mix_set (by rw [hrl]; exact hlt)]
    rw [hf] at hset
    simp only [encB] at hset
    have hx := gXor8 l[i] r[i]
    generalize l[i] ^^^ r[i] = x at hx hset
    simp [tm, hlt, hri, hml, B_get, hs, hx, hset, encB]
    exact ⟨i + 1, by omega, by omega, by simp⟩
  · have : i = l.length := by omega
    subst this
    have hall : mix f (List.replicate l.length 0) l.length = sm l r := by
      have := mix_all (f := f) (ws := List.replicate l.length (0 : UInt8))
      rw [hrl] at this
      rw [this]
      apply List.ext_getElem
      · simp [sm_len hl]
      · intro j h1 h2
        simp [f, List.getD_eq_getElem?_getD, List.getElem?_eq_getElem h2]
    have htk : (rws encB (sm l r)).take l.length = rws encB (sm l r) := List.take_of_length_le (by simp [sm_len hl])
    have hb := bytesOf_rws (sm l r)
    have hsl := sm_len hl
    simp [tm, hall, htk, hb, hsl, B_mk]
theorem appB (l : List UInt8) (x : UInt8) : rws encB l ++ [[.int .u8 x.toNat]] = rws encB (l ++ [x]) := by simp [rws, encB]
theorem l02Sum (k : Nat) (l r : List UInt8) (hl : l.length = r.length) (hn : l.length ≤ 1048576) : call code (k + 1) 146 [.str (B l), .str (B r)] [] = some ⟨.str (B (sm l r)), [], []⟩ := by
  refine call_run rfl fn146 rfl ?_
  simp [F146]
  refine RunC_loop (fun i : Nat => ⟨tm 26 [(0, .str (B l)), (1, .str (B r)), (5, .sl 0 65536 0 [] 0 i), (6, .int .i64 i)], [(65536, some ⟨0, 1, false, true, rws encB ((sm l r).take i)⟩)], []⟩)
    (fun i => i ≤ l.length) (fun i => l.length - i) 0 (Nat.zero_le _) (by simp; omega) (by simp [tm]) fun i hi _ => ?_
  have hsl := sm_len hl
  have hml : ((sm l r).take i).length = i := by rw [List.length_take, hsl]; omega
  by_cases hlt : i < l.length
  · have hs := idx_succ' hlt (by omega)
    have hri : i < r.length := by omega
    have hx := gXor8 l[i] r[i]
    have hap := appB ((sm l r).take i) (l[i] ^^^ r[i])
    rw [show (sm l r).take i ++ [l[i] ^^^ r[i]] = (sm l r).take (i + 1) by rw [List.take_succ_eq_append_getElem (by omega)]; simp [sm]] at hap
    generalize l[i] ^^^ r[i] = x at hx hap
    simp [tm, hlt, hri, hml, B_get, hs, hx, evalW, source, hap]
    exact ⟨by omega, i + 1, by omega, by omega, by simp, rfl⟩
  · have : i = l.length := by omega
    subst this
    have htk : (sm l r).take l.length = sm l r := List.take_of_length_le (by omega)
    have htk2 : (rws encB (sm l r)).take l.length = rws encB (sm l r) := List.take_of_length_le (by simp [hsl])
    have hb := bytesOf_rws (sm l r)
    simp [tm, hsl, htk, htk2, hb, B_mk]
theorem gm_zero_left (b : Nat) : ∀ n, gml n 0 b 0 = 0
  | 0 => rfl
  | n + 1 => by
    have : dbl 0 = 0 := by decide
    simp only [gml, this]
    have h2 : (if b % 2 = 1 then 0 ^^^ 0 else 0) = 0 := by split <;> rfl
    rw [h2]; exact gm_zero_left (b / 2) n
theorem scl_zero (l : List UInt8) : scl 0 l = List.replicate l.length 0 := by
  unfold scl
  have : ∀ c : UInt8, UInt8.ofNat (gm 0 c.toNat) = 0 := fun c => by unfold gm; rw [gm_zero_left]; rfl
  simp only [this]
  rw [List.map_const']
theorem scl_at (a : Nat) (l : List UInt8) (i : Nat) (h : i < l.length) : (scl a l).getD i 0 = UInt8.ofNat (gm a l[i].toNat) := by
  rw [List.getD_eq_getElem?_getD, List.getElem?_eq_getElem (by simpa using h)]
  simp [scl]
theorem scaled (k : Nat) (a : Nat) (l : List UInt8) (ha : a < 256) (hn : l.length ≤ 1048576) : call code (k + 3) 159 [.int .i64 a, .str (B l)] [] = some ⟨.str (B (scl a l)), [], []⟩ := by
  refine call_run rfl fn159 rfl ?_
  have hz : List.replicate l.length [AV.int .u8 0] = rws encB (List.replicate l.length 0) := by simp [rws_rep, encB]
  have hrl : (List.replicate l.length (0 : UInt8)).length = l.length := by simp
  simp [F159, zeroRow, hz]
  refine ⟨by omega, ?_⟩
  let f : Nat → UInt8 := fun i => (scl a l).getD i 0
  refine RunC_loop (fun i : Nat => ⟨tm 28 [(0, .int .i64 a), (1, .str (B l)), (5, .sl 0 66048 0 [] 0 l.length), (11, .int .i64 l.length), (12, .int .i64 i)], [(66048, some ⟨0, 1, false, true, rws encB (mix f (List.replicate l.length 0) i)⟩)], []⟩)
    (fun i => i ≤ l.length) (fun i => l.length - i) 0 (Nat.zero_le _) (by simp; omega) (by simp [tm, mix_zero]) fun i hi _ => ?_
  have hml : (mix f (List.replicate l.length 0) i).length = l.length := by rw [mix_len (by rw [hrl]; exact hi), hrl]
  by_cases hlt : i < l.length
  · have hs := idx_succ' hlt (by omega)
    have hf : f i = UInt8.ofNat (gm a l[i].toNat) := scl_at a l i hlt
    have hset : (rws encB (mix f (List.replicate l.length 0) i)).set i (encB (f i)) = rws encB (mix f (List.replicate l.length 0) (i + 1)) := by rw [rws_set, mix_set (by rw [hrl]; exact hlt)]
    rw [hf] at hset
    simp only [encB] at hset
    have hb := l[i].toNat_lt
    have ht := fun k => times k a l[i].toNat ha hb
    have hw := wrap8 (gm_lt (b := l[i].toNat) ha)
    have hu := wrap64u l[i]
    rw [← hw] at hset
    generalize gm a l[i].toNat = g at *
    simp [tm, hlt, hml, hs, hset, encB, rcall158, ht, hu]
    exact ⟨i + 1, by omega, by omega, by simp⟩
  · have : i = l.length := by omega
    subst this
    have hall : mix f (List.replicate l.length 0) l.length = scl a l := by
      have := mix_all (f := f) (ws := List.replicate l.length (0 : UInt8))
      rw [hrl] at this
      rw [this]
      apply List.ext_getElem
      · simp
      · intro j h1 h2
        simp [f, List.getD_eq_getElem?_getD, List.getElem?_eq_getElem h2]
    have htk : (rws encB (scl a l)).take l.length = rws encB (scl a l) := List.take_of_length_le (by simp)
    have hb := bytesOf_rws (scl a l)
    simp [tm, hall, htk, hb, B_mk]
theorem l02Scale (k : Nat) (a : Nat) (l : List UInt8) (ha : a < 256) (hn : l.length ≤ 1048576) : call code (k + 3) 160 [.int .i64 a, .str (B l)] [] = some ⟨.str (B (scl a l)), [], []⟩ := by
  refine call_run rfl fn160 rfl ?_
  simp [F160]
  refine RunC_loop (fun i : Nat => ⟨tm 26 [(0, .int .i64 a), (1, .str (B l)), (5, .sl 0 65536 0 [] 0 i), (6, .int .i64 i)], [(65536, some ⟨0, 1, false, true, rws encB ((scl a l).take i)⟩)], []⟩)
    (fun i => i ≤ l.length) (fun i => l.length - i) 0 (Nat.zero_le _) (by simp; omega) (by simp [tm]) fun i hi _ => ?_
  have hml : ((scl a l).take i).length = i := by rw [List.length_take, scl_len]; omega
  by_cases hlt : i < l.length
  · have hs := idx_succ' hlt (by omega)
    have hb := l[i].toNat_lt
    have ht := fun k => l02Times k a l[i].toNat ha hb
    have hw := wrap8 (gm_lt (b := l[i].toNat) ha)
    have hu := wrap64u l[i]
    have hap := appB ((scl a l).take i) (UInt8.ofNat (gm a l[i].toNat))
    rw [show (scl a l).take i ++ [UInt8.ofNat (gm a l[i].toNat)] = (scl a l).take (i + 1) by rw [List.take_succ_eq_append_getElem (by simpa using hlt)]; simp [scl]] at hap
    rw [← hw] at hap
    generalize gm a l[i].toNat = g at *
    simp [tm, hlt, hml, hs, evalW, source, hap, rcall162, ht, hu]
    exact ⟨by omega, i + 1, by omega, by omega, by simp, rfl⟩
  · have : i = l.length := by omega
    subst this
    have htk : (scl a l).take l.length = scl a l := List.take_of_length_le (by simp)
    have htk2 : (rws encB (scl a l)).take l.length = rws encB (scl a l) := List.take_of_length_le (by simp)
    have hb := bytesOf_rws (scl a l)
    simp [tm, htk, htk2, hb, B_mk]
end Go.Ae.C3
