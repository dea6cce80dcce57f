/- The product of two elements, twice told. -/
import Derived.Test.YtgmfljabhcamlaaAeList
import Derived.Test.YtgmfljabhcamlaaC1Code
namespace Go.Ae.C1
set_option linter.unusedSimpArgs false
set_option linter.unusedVariables false
def dbl (x : Nat) : Nat := if 255 < 2 * x then (2 * x) ^^^ 285 else 2 * x
def gml : Nat → Nat → Nat → Nat → Nat
  | 0, _, _, out => out
  | n + 1, a, b, out => gml n (dbl a) (b / 2) (if b % 2 = 1 then out ^^^ a else out)
/-- The product of two elements. -/
def gm (a b : Nat) : Nat := gml 8 a b 0
theorem gml_zero : ∀ (n a out : Nat), gml n a 0 out = out
  | 0, _, _ => rfl
  | n + 1, a, out => by simp [gml, gml_zero n]
theorem dbl_lt {x : Nat} (h : x < 256) : dbl x < 256 := by
  unfold dbl
  split
  · rename_i h1
    have h2 : 2 * x < 2 ^ 9 := by omega
    -- below 512, from 256 on: the topmost bit goes
    have : ∀ y, y < 512 → 255 < y → y ^^^ 285 < 256 := by decide +kernel
    exact this _ (by omega) h1
  · omega
theorem gml_lt : ∀ (n a b out : Nat), a < 256 → out < 256 → gml n a b out < 256
  | 0, _, _, out, _, h => h
  | n + 1, a, b, out, ha, ho => by
    simp only [gml]
    refine gml_lt n _ _ _ (dbl_lt ha) ?_
    split
    · exact Nat.xor_lt_two_pow (n := 8) ho ha
    · exact ho
theorem gm_lt {a b : Nat} (ha : a < 256) : gm a b < 256 := gml_lt 8 a b 0 ha (by decide)
theorem double (k : Nat) (x : Nat) (hx : x < 256) : call code (k + 1) 171 [.int .i64 x] [] = some ⟨.int .i64 (dbl x : Nat), [], []⟩ := by
  refine call_run rfl fn171 rfl ?_
  have e1 : IntKind.wrap .i64 ((x : Int) * 2) = ((2 * x : Nat) : Int) := by rw [wrap64 ⟨by omega, by omega⟩]; omega
  have e2 : gXor .i64 ((2 * x : Nat) : Int) 285 = (((2 * x) ^^^ 285 : Nat) : Int) := gXor64 (b := 285) (by omega) (by decide)
  unfold dbl
  generalize hy : 2 * x = y at e1 e2
  by_cases h : 255 < y
  · have hd : decide ((255 : Int) < (y : Int)) = true := by simp; omega
    simp [F171, e1, h, hd, e2]
  · have hd : decide ((255 : Int) < (y : Int)) = false := by simp; omega
    simp [F171, e1, h, hd]
theorem times (k : Nat) (a b : Nat) (ha : a < 256) (hb : b < 256) : call code (k + 2) 158 [.int .i64 a, .int .i64 b] [] = some ⟨.int .i64 (gm a b : Nat), [], []⟩ := by
  refine call_run rfl fn158 rfl ?_
  simp [F158]
  refine RunC_loop (fun q : Nat × Nat × Nat × Nat => ⟨[.int .i64 q.2.1, .int .i64 q.2.2.1, .undef, .undef, .undef, .int .i64 q.2.2.2] ++ List.replicate 13 .undef, [], []⟩)
    (fun q => q.2.1 < 256 ∧ q.2.2.1 < 2 ^ q.1 ∧ q.1 ≤ 8 ∧ q.2.2.2 < 256 ∧ gml q.1 q.2.1 q.2.2.1 q.2.2.2 = gm a b) (fun q => q.1) (8, a, b, 0) ⟨ha, by simpa using hb, Nat.le_refl 8, by simp, rfl⟩ (by simp) (by simp) fun q hq _ => ?_
  obtain ⟨m, a, b, out⟩ := q
  obtain ⟨h1, h2, h3, h4, h5⟩ := hq
  simp only at h1 h2 h3 h4 h5
  by_cases hz : b = 0
  · subst hz
    rw [gml_zero] at h5
    simp [h5]
  · have hp : 0 < b := by omega
    cases m with
    | zero => simp at h2; omega
    | succ m =>
      have hpw : 2 ^ (m + 1) ≤ 2 ^ 8 := Nat.pow_le_pow_right (by decide) h3
      have hb8 : b < 256 := Nat.lt_of_lt_of_le h2 hpw
      have e0 : ((b : Int).tmod 2) = ((b % 2 : Nat) : Int) := by simp [Int.tmod_eq_emod_of_nonneg]
      have e1 : IntKind.wrap .i64 ((b : Int) / 2) = ((b / 2 : Nat) : Int) := by
        rw [wrap64 ⟨by omega, by omega⟩]; rfl
      have e2 : gXor .i64 (out : Int) (a : Int) = ((out ^^^ a : Nat) : Int) := gXor64 (by omega) (by omega)
      have x1 : out ^^^ a < 256 := Nat.xor_lt_two_pow (n := 8) h4 h1
      have h2' : b < 2 * 2 ^ m := by rw [Nat.pow_succ] at h2; omega
      simp only [gml] at h5
      have hd := dbl_lt h1
      have hdb := fun k => double k a h1
      generalize hda : dbl a = da at h5 hd hdb
      generalize hx : out ^^^ a = x at h5 e2 x1
      generalize hb2 : b / 2 = b2 at h5 e1
      have h6 : b2 < 2 ^ m := by omega
      generalize hbm : b % 2 = bm at h5 e0
      by_cases hodd : bm = 1
      · subst hodd
        simp [hp, hz, e0, e1, e2, rcall171, hdb]
        refine ⟨m, da, b2, x, ⟨hd, h6, by omega, x1, ?_⟩, by omega, ⟨rfl, rfl, rfl⟩⟩
        simpa using h5
      · have hbm0 : bm = 0 := by omega
        subst hbm0
        simp [hp, hz, e0, e1, rcall171, hdb]
        refine ⟨m, da, b2, out, ⟨hd, h6, by omega, h4, ?_⟩, by omega, ⟨rfl, rfl, rfl⟩⟩
        simpa using h5
theorem l02Times (k : Nat) (a b : Nat) (ha : a < 256) (hb : b < 256) : call code (k + 1) 151 [.int .i64 a, .int .i64 b] [] = some ⟨.int .i64 (gm a b : Nat), [], []⟩ := by
  refine call_run rfl fn151 rfl ?_
  simp [F151]
  refine RunC_loop (fun q : Nat × Nat × Nat × Nat => ⟨[.int .i64 q.2.1, .int .i64 q.2.2.1, .undef, .undef, .undef, .int .i64 q.2.2.2, .int .i64 (8 - q.1 : Nat)] ++ List.replicate 19 .undef, [], []⟩)
    (fun q => q.2.1 < 256 ∧ q.2.2.1 < 256 ∧ q.1 ≤ 8 ∧ q.2.2.2 < 256 ∧ gml q.1 q.2.1 q.2.2.1 q.2.2.2 = gm a b) (fun q => q.1) (8, a, b, 0) ⟨ha, hb, Nat.le_refl 8, by simp, rfl⟩ (by simp) (by simp) fun q hq _ => ?_
  obtain ⟨m, a, b, out⟩ := q
  obtain ⟨h1, h2, h3, h4, h5⟩ := hq
  simp only at h1 h2 h3 h4 h5
  cases m with
  | zero => simp only [gml] at h5; simp [h5]
  | succ m =>
    have e0 : gAnd .i64 (b : Int) 1 = ((b % 2 : Nat) : Int) := by
      have := gAnd64 (a := b) (b := 1) (by omega) (by decide)
      rw [Nat.and_one_is_mod] at this; exact this
    have e1 : gShr .i64 (b : Int) 1 = ((b / 2 : Nat) : Int) := by
      have := gShrN (k := .i64) (a := b) (n := 1) (by decide)
      rw [show b >>> 1 = b / 2 from by simp [Nat.shiftRight_eq_div_pow]] at this; exact this
    have e2 : gXor .i64 (out : Int) (a : Int) = ((out ^^^ a : Nat) : Int) := gXor64 (by omega) (by omega)
    have x1 : out ^^^ a < 256 := Nat.xor_lt_two_pow (n := 8) h4 h1
    have e3 : gShl .i64 (a : Int) 1 = ((2 * a : Nat) : Int) := by
      show IntKind.wrap .i64 ((a : Int) * 2) = _
      rw [wrap64 ⟨by omega, by omega⟩]; omega
    have e4 : gXor .i64 ((2 * a : Nat) : Int) 285 = (((2 * a) ^^^ 285 : Nat) : Int) := gXor64 (b := 285) (by omega) (by decide)
    have hi : decide (((8 - (m + 1) : Nat) : Int) < 8) = true := by simp; omega
    have hi1 : IntKind.wrap .i64 (((8 - (m + 1) : Nat) : Int) + 1) = ((8 - m : Nat) : Int) := by rw [wrap64 ⟨by omega, by omega⟩]; omega
    have hd := dbl_lt h1
    simp only [gml] at h5
    have hb2 : b / 2 < 256 := by omega
    generalize hx : out ^^^ a = x at h5 e2 x1
    generalize b / 2 = b2 at h5 e1 hb2
    generalize hbm : b % 2 = bm at h5 e0
    generalize hii : 8 - (m + 1) = i0 at hi hi1
    generalize hi2 : 8 - m = i1 at hi1
    have hbm2 : bm = 0 ∨ bm = 1 := by omega
    unfold dbl at h5 hd
    generalize hy : 2 * a = y at e3 e4 h5 hd
    by_cases hc : 255 < y
    · have hc' : decide ((255 : Int) < (y : Int)) = true := by simp; omega
      simp only [hc, if_true] at h5 hd
      generalize hz : y ^^^ 285 = z at e4 h5 hd
      rcases hbm2 with rfl | rfl
      · simp [hi, hi1, e0, e1, e2, e3, e4, hc, hc', hii]
        exact ⟨m, z, b2, out, ⟨hd, hb2, by omega, h4, by simpa using h5⟩, by omega, ⟨rfl, rfl, rfl, hi2.symm ▸ rfl⟩⟩
      · simp [hi, hi1, e0, e1, e2, e3, e4, hc, hc', hii]
        exact ⟨m, z, b2, x, ⟨hd, hb2, by omega, x1, by simpa using h5⟩, by omega, ⟨rfl, rfl, rfl, hi2.symm ▸ rfl⟩⟩
    · have hc' : decide ((255 : Int) < (y : Int)) = false := by simp; omega
      simp only [hc, if_false] at h5 hd
      rcases hbm2 with rfl | rfl
      · simp [hi, hi1, e0, e1, e2, e3, e4, hc, hc', hii]
        exact ⟨m, y, b2, out, ⟨hd, hb2, by omega, h4, by simpa using h5⟩, by omega, ⟨rfl, rfl, rfl, hi2.symm ▸ rfl⟩⟩
      · simp [hi, hi1, e0, e1, e2, e3, e4, hc, hc', hii]
        exact ⟨m, y, b2, x, ⟨hd, hb2, by omega, x1, by simpa using h5⟩, by omega, ⟨rfl, rfl, rfl, hi2.symm ▸ rfl⟩⟩
end Go.Ae.C1
