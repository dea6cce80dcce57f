/- The field: sums and products; sums of products. -/
import Derived.Test.YtnfghcflpnlbiaaC3M6
namespace Go.Ae.C3
set_option linter.unusedSimpArgs false
set_option linter.unusedVariables false
theorem dbl_xor : ∀ x, x < 256 → ∀ y, y < 256 → dbl (x ^^^ y) = dbl x ^^^ dbl y := by decide +kernel
theorem gm_comm : ∀ x, x < 256 → ∀ y, y < 256 → gm x y = gm y x := by decide +kernel
theorem inv_gm : ∀ x, x < 256 → x ≠ 0 → gm (inv x) x = 1 := by decide +kernel
theorem inv_ne : ∀ x, x < 256 → x ≠ 0 → inv x ≠ 0 := by decide +kernel
theorem gml_0 : ∀ (n b : Nat), gml n 0 b 0 = 0
  | 0, _ => rfl
  | n + 1, b => by
    simp only [gml]
    have : dbl 0 = 0 := by decide
    rw [this]
    simp [gml_0 n]
theorem gm_0 (b : Nat) : gm 0 b = 0 := gml_0 8 b
theorem gm_0' (b : Nat) : gm b 0 = 0 := by simp [gm, gml_zero]
theorem xlt {a b : Nat} (ha : a < 256) (hb : b < 256) : a ^^^ b < 256 := Nat.xor_lt_two_pow (n := 8) ha hb
theorem x4 (a b c d : Nat) : (a ^^^ b) ^^^ (c ^^^ d) = (a ^^^ c) ^^^ (b ^^^ d) := by
  rw [Nat.xor_assoc, Nat.xor_assoc, ← Nat.xor_assoc b, Nat.xor_comm b c, Nat.xor_assoc]
theorem gml_xor : ∀ (n a a' b o o' : Nat), a < 256 → a' < 256 → gml n (a ^^^ a') b (o ^^^ o') = gml n a b o ^^^ gml n a' b o'
  | 0, _, _, _, _, _, _, _ => rfl
  | n + 1, a, a', b, o, o', h, h' => by
    simp only [gml]
    rw [dbl_xor a h a' h']
    split
    · rw [x4, gml_xor n _ _ _ _ _ (dbl_lt h) (dbl_lt h')]
    · rw [gml_xor n _ _ _ _ _ (dbl_lt h) (dbl_lt h')]
theorem gm_xor {a a' b : Nat} (h : a < 256) (h' : a' < 256) : gm (a ^^^ a') b = gm a b ^^^ gm a' b := by
  have := gml_xor 8 a a' b 0 0 h h'
  simpa [gm] using this
theorem gm_xor' {a b b' : Nat} (ha : a < 256) (h : b < 256) (h' : b' < 256) : gm a (b ^^^ b') = gm a b ^^^ gm a b' := by
  rw [gm_comm a ha _ (xlt h h'), gm_xor h h', gm_comm b h a ha, gm_comm b' h' a ha]
theorem gml_dbl : ∀ (n a b o : Nat), a < 256 → o < 256 → gml n (dbl a) b (dbl o) = dbl (gml n a b o)
  | 0, _, _, _, _, _ => rfl
  | n + 1, a, b, o, h, h' => by
    simp only [gml]
    split
    · rw [← dbl_xor o h' a h, gml_dbl n _ _ _ (dbl_lt h) (xlt h' h)]
    · rw [gml_dbl n _ _ _ (dbl_lt h) h']
theorem gm_dbl {c a : Nat} (hc : c < 256) (ha : a < 256) : gm c (dbl a) = dbl (gm c a) := by
  rw [gm_comm c hc _ (dbl_lt ha), gm_comm c hc a ha]
  exact gml_dbl 8 a c 0 ha (by decide)
theorem gm_gml : ∀ (n c a b o : Nat), c < 256 → a < 256 → o < 256 → gm c (gml n a b o) = gml n (gm c a) b (gm c o)
  | 0, _, _, _, _, _, _, _ => rfl
  | n + 1, c, a, b, o, hc, h, h' => by
    simp only [gml]
    rw [← gm_dbl hc h]
    split
    · rw [gm_gml n _ _ _ _ hc (dbl_lt h) (xlt h' h), gm_xor' hc h' h]
    · rw [gm_gml n _ _ _ _ hc (dbl_lt h) h']
theorem gm_assoc {c a : Nat} (b : Nat) (hc : c < 256) (ha : a < 256) : gm c (gm a b) = gm (gm c a) b := by
  have := gm_gml 8 c a b 0 hc ha (by decide)
  rw [gm_0'] at this
  exact this
/-- The sum of the products of the first n. -/
def dot (r x : Nat → Nat) : Nat → Nat
  | 0 => 0
  | n + 1 => dot r x n ^^^ gm (r n) (x n)
theorem dot_lt {r x : Nat → Nat} : ∀ n, (∀ j, j < n → r j < 256) → dot r x n < 256
  | 0, _ => by simp [dot]
  | n + 1, h => xlt (dot_lt n fun j hj => h j (by omega)) (gm_lt (h n (by omega)))
theorem dot_congr {r r' x x' : Nat → Nat} : ∀ n, (∀ j, j < n → r j = r' j) → (∀ j, j < n → x j = x' j) → dot r x n = dot r' x' n
  | 0, _, _ => rfl
  | n + 1, h, h' => by rw [dot, dot, dot_congr n (fun j hj => h j (by omega)) (fun j hj => h' j (by omega)), h n (by omega), h' n (by omega)]
theorem dot_scl {r x : Nat → Nat} {c : Nat} (hc : c < 256) : ∀ n, (∀ j, j < n → r j < 256) → dot (fun j => gm c (r j)) x n = gm c (dot r x n)
  | 0, _ => by simp [dot, gm_0']
  | n + 1, h => by
    have h1 : ∀ j, j < n → r j < 256 := fun j hj => h j (by omega)
    rw [dot, dot, dot_scl hc n h1, gm_xor' hc (dot_lt n h1) (gm_lt (h n (by omega))), gm_assoc (x n) hc (h n (by omega))]
theorem dot_add {r s x : Nat → Nat} {c : Nat} (hc : c < 256) : ∀ n, (∀ j, j < n → r j < 256) → (∀ j, j < n → s j < 256) → dot (fun j => r j ^^^ gm c (s j)) x n = dot r x n ^^^ gm c (dot s x n)
  | 0, _, _ => by simp [dot, gm_0']
  | n + 1, h, h' => by
    have h1 : ∀ j, j < n → r j < 256 := fun j hj => h j (by omega)
    have h2 : ∀ j, j < n → s j < 256 := fun j hj => h' j (by omega)
    rw [dot, dot, dot, dot_add hc n h1 h2, gm_xor (h n (by omega)) (gm_lt hc), gm_xor' hc (dot_lt n h2) (gm_lt (h' n (by omega))), gm_assoc (x n) hc (h' n (by omega)), x4]
theorem dot_zero {r : Nat → Nat} : ∀ n, dot r (fun _ => 0) n = 0
  | 0 => rfl
  | n + 1 => by rw [dot, dot_zero n, gm_0']; rfl
theorem dot_unit {r x : Nat → Nat} {i : Nat} : ∀ n, (∀ j, j < n → r j = idM i j) → (∀ j, j < n → x j < 256) → dot r x n = if i < n then x i else 0
  | 0, _, _ => by simp [dot]
  | n + 1, h, h' => by
    rw [dot, dot_unit n (fun j hj => h j (by omega)) (fun j hj => h' j (by omega)), h n (by omega)]
    unfold idM
    by_cases h1 : i = n
    · subst h1; simp [gm_one _ (h' i (by omega))]
    · by_cases h2 : i < n
      · simp [h1, h2, gm_0, show i < n + 1 by omega]
      · simp [h1, h2, gm_0, show ¬ i < n + 1 by omega]
end Go.Ae.C3
