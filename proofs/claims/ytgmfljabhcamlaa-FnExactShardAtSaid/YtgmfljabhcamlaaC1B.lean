/- Powers and inverses of elements, twice told. -/
import Derived.Test.YtgmfljabhcamlaaC1A
namespace Go.Ae.C1
set_option linter.unusedSimpArgs false
set_option linter.unusedVariables false
def pwl : Nat → Nat → Nat → Nat → Nat
  | 0, _, _, out => out
  | f + 1, a, n, out => pwl f (gm a a) (n / 2) (if n % 2 = 1 then gm out a else out)
/-- The inverse of an element that is not 0. -/
def inv (a : Nat) : Nat := pwl 8 a 254 1
theorem pwl_zero : ∀ (n a out : Nat), pwl n a 0 out = out
  | 0, _, _ => rfl
  | n + 1, a, out => by simp [pwl, pwl_zero n]
theorem pwl_lt : ∀ (n a b out : Nat), a < 256 → out < 256 → pwl n a b out < 256
  | 0, _, _, out, _, h => h
  | n + 1, a, b, out, ha, ho => by
    simp only [pwl]
    refine pwl_lt n _ _ _ (gm_lt ha) ?_
    split
    · exact gm_lt ho
    · exact ho
theorem inv_lt {a : Nat} (ha : a < 256) : inv a < 256 := pwl_lt 8 a 254 1 ha (by decide)
theorem power (k : Nat) (a : Nat) (ha : a < 256) : call code (k + 3) 173 [.int .i64 a, .int .i64 254] [] = some ⟨.int .i64 (inv a : Nat), [], []⟩ := by
  refine call_run rfl fn173 rfl ?_
  simp [F173]
  refine RunC_loop (fun q : Nat × Nat × Nat × Nat => ⟨[.int .i64 q.2.1, .int .i64 q.2.2.1, .undef, .undef, .undef, .int .i64 q.2.2.2] ++ List.replicate 14 .undef, [], []⟩)
    (fun q => q.2.1 < 256 ∧ q.2.2.1 < 2 ^ q.1 ∧ q.1 ≤ 8 ∧ q.2.2.2 < 256 ∧ pwl q.1 q.2.1 q.2.2.1 q.2.2.2 = inv a) (fun q => q.1) (8, a, 254, 1) ⟨ha, show 254 < 2 ^ 8 by decide, Nat.le_refl 8, by simp, rfl⟩ (by simp) (by simp) fun q hq _ => ?_
  obtain ⟨m, a, b, out⟩ := q
  obtain ⟨h1, h2, h3, h4, h5⟩ := hq
  simp only at h1 h2 h3 h4 h5
  by_cases hz : b = 0
  · subst hz
    rw [pwl_zero] at h5
    simp [h5]
  · have hp : 0 < b := by omega
    cases m with
    | zero => simp at h2; omega
    | succ m =>
      have hpw : 2 ^ (m + 1) ≤ 2 ^ 8 := Nat.pow_le_pow_right (by decide) h3
      have hb8 : b < 256 := Nat.lt_of_lt_of_le h2 hpw
      have e0 : ((b : Int).tmod 2) = ((b % 2 : Nat) : Int) := by simp [Int.tmod_eq_emod_of_nonneg]
      have e1 : IntKind.wrap .i64 ((b : Int) / 2) = ((b / 2 : Nat) : Int) := by
        rw [wrap64 ⟨by omega, by omega⟩]; rfl
      have h2' : b < 2 * 2 ^ m := by rw [Nat.pow_succ] at h2; omega
      have t1 := fun k => times k out a h4 h1
      have t2 := fun k => times k a a h1 h1
      have l1 := gm_lt (b := a) h4
      have l2 := gm_lt (b := a) h1
      simp only [pwl] at h5
      generalize gm out a = oa at h5 t1 l1
      generalize gm a a = aa at h5 t2 l2
      generalize hb2 : b / 2 = b2 at h5 e1
      have h6 : b2 < 2 ^ m := by omega
      generalize hbm : b % 2 = bm at h5 e0
      by_cases hodd : bm = 1
      · subst hodd
        simp [hp, hz, e0, e1, rcall158, t1, t2]
        exact ⟨m, aa, b2, oa, ⟨l2, h6, by omega, l1, by simpa using h5⟩, by omega, ⟨rfl, rfl, rfl⟩⟩
      · have hbm0 : bm = 0 := by omega
        subst hbm0
        simp [hp, hz, e0, e1, rcall158, t1, t2]
        exact ⟨m, aa, b2, out, ⟨l2, h6, by omega, h4, by simpa using h5⟩, by omega, ⟨rfl, rfl, rfl⟩⟩
theorem inverse (k : Nat) (a : Nat) (ha : a < 256) : call code (k + 4) 163 [.int .i64 a] [] = some ⟨.int .i64 (inv a : Nat), [], []⟩ := by
  refine call_run rfl fn163 rfl ?_
  simp [F163, rcall173, power _ a ha]
theorem l02Pow (k : Nat) (a : Nat) (ha : a < 256) : call code (k + 2) 166 [.int .i64 a, .int .i64 254] [] = some ⟨.int .i64 (inv a : Nat), [], []⟩ := by
  refine call_run rfl fn166 rfl ?_
  simp [F166]
  refine RunC_loop (fun q : Nat × Nat × Nat × Nat => ⟨[.int .i64 q.2.1, .int .i64 q.2.2.1, .undef, .undef, .undef, .int .i64 q.2.2.2] ++ List.replicate 14 .undef, [], []⟩)
    (fun q => q.2.1 < 256 ∧ q.2.2.1 < 2 ^ q.1 ∧ q.1 ≤ 8 ∧ q.2.2.2 < 256 ∧ pwl q.1 q.2.1 q.2.2.1 q.2.2.2 = inv a) (fun q => q.1) (8, a, 254, 1) ⟨ha, show 254 < 2 ^ 8 by decide, Nat.le_refl 8, by simp, rfl⟩ (by simp) (by simp) fun q hq _ => ?_
  obtain ⟨m, a, b, out⟩ := q
  obtain ⟨h1, h2, h3, h4, h5⟩ := hq
  simp only at h1 h2 h3 h4 h5
  by_cases hz : b = 0
  · subst hz
    rw [pwl_zero] at h5
    simp [h5]
  · have hp : 0 < b := by omega
    cases m with
    | zero => simp at h2; omega
    | succ m =>
      have hpw : 2 ^ (m + 1) ≤ 2 ^ 8 := Nat.pow_le_pow_right (by decide) h3
      have hb8 : b < 256 := Nat.lt_of_lt_of_le h2 hpw
      have e0 : ((b : Int).tmod 2) = ((b % 2 : Nat) : Int) := by simp [Int.tmod_eq_emod_of_nonneg]
      have e1 : IntKind.wrap .i64 ((b : Int) / 2) = ((b / 2 : Nat) : Int) := by
        rw [wrap64 ⟨by omega, by omega⟩]; rfl
      have h2' : b < 2 * 2 ^ m := by rw [Nat.pow_succ] at h2; omega
      have t1 := fun k => l02Times k out a h4 h1
      have t2 := fun k => l02Times k a a h1 h1
      have l1 := gm_lt (b := a) h4
      have l2 := gm_lt (b := a) h1
      simp only [pwl] at h5
      generalize gm out a = oa at h5 t1 l1
      generalize gm a a = aa at h5 t2 l2
      generalize hb2 : b / 2 = b2 at h5 e1
      have h6 : b2 < 2 ^ m := by omega
      generalize hbm : b % 2 = bm at h5 e0
      by_cases hodd : bm = 1
      · subst hodd
        simp [hp, hz, e0, e1, rcall151, t1, t2]
        exact ⟨m, aa, b2, oa, ⟨l2, h6, by omega, l1, by simpa using h5⟩, by omega, ⟨rfl, rfl, rfl⟩⟩
      · have hbm0 : bm = 0 := by omega
        subst hbm0
        simp [hp, hz, e0, e1, rcall151, t1, t2]
        exact ⟨m, aa, b2, out, ⟨l2, h6, by omega, h4, by simpa using h5⟩, by omega, ⟨rfl, rfl, rfl⟩⟩
theorem l02Inv (k : Nat) (a : Nat) (ha : a < 256) : call code (k + 3) 152 [.int .i64 a] [] = some ⟨.int .i64 (inv a : Nat), [], []⟩ := by
  refine call_run rfl fn152 rfl ?_
  simp [F152, rcall166, l02Pow _ a ha]
end Go.Ae.C1
