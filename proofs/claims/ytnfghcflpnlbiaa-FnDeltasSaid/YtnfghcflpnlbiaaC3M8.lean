/- The field: sums and products; sums of products. -/
import Derived.Test.YtnfghcflpnlbiaaC3M7
namespace Go.Ae.C3
set_option linter.unusedSimpArgs false
set_option linter.unusedVariables false
theorem dbl_xor : ∀ x, x < 256 → ∀ y, y < 256 → dbl (x ^^^ y) = dbl x ^^^ dbl y := by decide +kernel
theorem gm_comm : ∀ x, x < 256 → ∀ y, y < 256 → gm x y = gm y x := by decide +kernel
theorem inv_gm : ∀ x, x < 256 → x ≠ 0 → gm (inv x) x = 1 := by decide +kernel
theorem inv_ne : ∀ x, x < 256 → x ≠ 0 → inv x ≠ 0 := by decide +kernel
theorem gml_0 : ∀ (n b : Nat), gml n 0 b 0 = 0
  | 0, _ => rfl
  | n + 1, b => by
    simp only [gml]
    have : dbl 0 = 0 := by decide
    rw [this]
    simp [gml_0 n]
theorem gm_0 (b : Nat) : gm 0 b = 0 := gml_0 8 b
theorem gm_0' (b : Nat) : gm b 0 = 0 := by simp [gm, gml_zero]
theorem xlt {a b : Nat} (ha : a < 256) (hb : b < 256) : a ^^^ b < 256 := Nat.xor_lt_two_pow (n := 8) ha hb
theorem x4 (a b c d : Nat) : (a ^^^ b) ^^^ (c ^^^ d) = (a ^^^ c) ^^^ (b ^^^ d) := by
  rw [Nat.xor_assoc, Nat.xor_assoc, ← Nat.xor_assoc b, Nat.xor_comm b c, Nat.xor_assoc]
theorem gml_xor : ∀ (n a a' b o o' : Nat), a < 256 → a' < 256 → gml n (a ^^^ a') b (o ^^^ o') = gml n a b o ^^^ gml n a' b o'
  | 0, _, _, _, _, _, _, _ => rfl
  | n + 1, a, a', b, o, o', h, h' => by
    simp only [gml]
    rw [dbl_xor a h a' h']
    split
    · rw [x4, gml_xor n _ _ _ _ _ (dbl_lt h) (dbl_lt h')]
    · rw [gml_xor n _ _ _ _ _ (dbl_lt h) (dbl_lt h')]
theorem gm_xor {a a' b : Nat} (h : a < 256) (h' : a' < 256) : gm (a ^^^ a') b = gm a b ^^^ gm a' b := by
  have := gml_xor 8 a a' b 0 0 h h'
  simpa [gm] using this
theorem gm_xor' {a b b' : Nat} (ha : a < 256) (h : b < 256) (h' : b' < 256) : gm a (b ^^^ b') = gm a b ^^^ gm a b' := by
  rw [gm_comm a ha _ (xlt h h'), gm_xor h h', gm_comm b h a ha, gm_comm b' h' a ha]
theorem gml_dbl : ∀ (n a b o : Nat), a < 256 → o < 256 → gml n (dbl a) b (dbl o) = dbl (gml n a b o)
  | 0, _, _, _, _, _ => rfl
  | n + 1, a, b, o, h, h' => by
    simp only [gml]
    split
    · rw [← dbl_xor o h' a h, gml_dbl n _ _ _ (dbl_lt h) (xlt h' h)]
    · rw [gml_dbl n _ _ _ (dbl_lt h) h']
theorem gm_dbl {c a : Nat} (hc : c < 256) (ha : a < 256) : gm c (dbl a) = dbl (gm c a) := by
  rw [gm_comm c hc _ (dbl_lt ha), gm_comm c hc a ha]
  exact gml_dbl 8 a c 0 ha (by decide)
theorem gm_gml : ∀ (n c a b o : Nat), c < 256 → a < 256 → o < 256 → gm c (gml n a b o) = gml n (gm c a) b (gm c o)
  | 0, _, _, _, _, _, _, _ => rfl
  | n + 1, c, a, b, o, hc, h, h' => by
    simp only [gml]
    rw [← gm_dbl hc h]
    split
    · rw [gm_gml n _ _ _ _ hc (dbl_lt h) (xlt h' h), gm_xor' hc h' h]
    · rw [gm_gml n _ _ _ _ hc (dbl_lt h) h']
theorem gm_assoc {c a : Nat} (b : Nat) (hc : c < 256) (ha : a < 256) : gm c (gm a b) = gm (gm c a) b := by
  have := gm_gml 8 c a b 0 hc ha (by decide)
  rw [gm_0'] at this
  exact this
/-- The sum of the products of the first n. -/
def dot (r x : Nat → Nat) : Nat → Nat
  | 0 => 0
  | n + 1 => dot r x n ^^^ gm (r n) (x n)
theorem dot_lt {r x : Nat → Nat} : ∀ n, (∀ j, j < n → r j < 256) → dot r x n < 256
  | 0, _ => by simp [dot]
  | n + 1, h => xlt (dot_lt n fun j hj => h j (by omega)) (gm_lt (h n (by omega)))
theorem dot_congr {r r' x x' : Nat → Nat} : ∀ n, (∀ j, j < n → r j = r' j) → (∀ j, j < n → x j = x' j) → dot r x n = dot r' x' n
  | 0, _, _ => rfl
  | n + 1, h, h' => by rw [dot, dot, dot_congr n (fun j hj => h j (by omega)) (fun j hj => h' j (by omega)), h n (by omega), h' n (by omega)]
theorem dot_scl {r x : Nat → Nat} {c : Nat} (hc : c < 256) : ∀ n, (∀ j, j < n → r j < 256) → dot (fun j => gm c (r j)) x n = gm c (dot r x n)
  | 0, _ => by simp [dot, gm_0']
  | n + 1, h => by
    have h1 : ∀ j, j < n → r j < 256 := fun j hj => h j (by omega)
    rw [dot, dot, dot_scl hc n h1, gm_xor' hc (dot_lt n h1) (gm_lt (h n (by omega))), gm_assoc (x n) hc (h n (by omega))]
theorem dot_add {r s x : Nat → Nat} {c : Nat} (hc : c < 256) : ∀ n, (∀ j, j < n → r j < 256) → (∀ j, j < n → s j < 256) → dot (fun j => r j ^^^ gm c (s j)) x n = dot r x n ^^^ gm c (dot s x n)
  | 0, _, _ => by simp [dot, gm_0']
  | n + 1, h, h' => by
    have h1 : ∀ j, j < n → r j < 256 := fun j hj => h j (by omega)
    have h2 : ∀ j, j < n → s j < 256 := fun j hj => h' j (by omega)
    rw [dot, dot, dot, dot_add hc n h1 h2, gm_xor (h n (by omega)) (gm_lt hc), gm_xor' hc (dot_lt n h2) (gm_lt (h' n (by omega))), gm_assoc (x n) hc (h' n (by omega)), x4]
theorem dot_zero {r : Nat → Nat} : ∀ n, dot r (fun _ => 0) n = 0
  | 0 => rfl
  | n + 1 => by rw [dot, dot_zero n, gm_0']; rfl
theorem dot_unit {r x : Nat → Nat} {i : Nat} : ∀ n, (∀ j, j < n → r j = idM i j) → (∀ j, j < n → x j < 256) → dot r x n = if i < n then x i else 0
  | 0, _, _ => by simp [dot]
  | n + 1, h, h' => by
    rw [dot, dot_unit n (fun j hj => h j (by omega)) (fun j hj => h' j (by omega)), h n (by omega)]
    unfold idM
    by_cases h1 : i = n
    · subst h1; simp [gm_one _ (h' i (by omega))]
    · by_cases h2 : i < n
      · simp [h1, h2, gm_0, show i < n + 1 by omega]
      · simp [h1, h2, gm_0, show ¬ i < n + 1 by omega]
end Go.Ae.C3
namespace Go.Ae.C3
set_option linter.unusedSimpArgs false
set_option linter.unusedVariables false
/-- x and y solve the rows of the pair. -/
def Sol (w : Nat) (p : Mx × Mx) (x y : Nat → Nat) : Prop := ∀ i, i < w → dot (p.1 i) x w = dot (p.2 i) y w
theorem xor_cancel {a b c : Nat} : a ^^^ c = b ^^^ c → a = b := fun h => by
  have := congrArg (· ^^^ c) h
  simpa [Nat.xor_assoc] using this
theorem gm_cancel {c a b : Nat} (hc : c < 256) (h0 : c ≠ 0) (ha : a < 256) (hb : b < 256) (h : gm c a = gm c b) : a = b := by
  have := congrArg (gm (inv c)) h
  rw [gm_assoc a (inv_lt hc) hc, gm_assoc b (inv_lt hc) hc, inv_gm c hc h0, gm_one a ha, gm_one b hb] at this
  exact this
theorem sol_add {w t s c : Nat} {p : Mx × Mx} {x y : Nat → Nat} (h1 : bnd w p.1) (h2 : bnd w p.2) (ht : t < w) (hs : s < w) (hne : s ≠ t) (hc : c < 256) :
    Sol w (addRow p.1 t s c, addRow p.2 t s c) x y ↔ Sol w p x y := by
  have e1 : ∀ (M : Mx) i x, bnd w M → i < w → dot (addRow M t s c i) x w = if i = t then dot (M t) x w ^^^ gm c (dot (M s) x w) else dot (M i) x w := by
    intro M i x hM hi
    by_cases h : i = t
    · subst h
      rw [if_pos rfl, ← dot_add hc w (fun j hj => hM i j hi hj) (fun j hj => hM s j hs hj)]
      exact dot_congr w (fun j _ => by simp [addRow]) (fun _ _ => rfl)
    · rw [if_neg h]
      exact dot_congr w (fun j _ => by simp [addRow, h]) (fun _ _ => rfl)
  constructor
  · intro H i hi
    have hsr := H s hs
    rw [e1 p.1 s x h1 hs, e1 p.2 s y h2 hs, if_neg hne, if_neg hne] at hsr
    have hir := H i hi
    rw [e1 p.1 i x h1 hi, e1 p.2 i y h2 hi] at hir
    by_cases h : i = t
    · subst h
      rw [if_pos rfl, if_pos rfl, hsr] at hir
      exact xor_cancel hir
    · rw [if_neg h, if_neg h] at hir
      exact hir
  · intro H i hi
    show dot (addRow p.1 t s c i) x w = dot (addRow p.2 t s c i) y w
    rw [e1 p.1 i x h1 hi, e1 p.2 i y h2 hi]
    split
    · rw [H t ht, H s hs]
    · exact H i hi
theorem sol_swp {w a b : Nat} {p : Mx × Mx} {x y : Nat → Nat} (ha : a < w) (hb : b < w) : Sol w (swp p.1 a b, swp p.2 a b) x y ↔ Sol w p x y := by
  have e : ∀ (M : Mx) i, swp M a b i = if i = a then M b else if i = b then M a else M i := by
    intro M i; funext j; unfold swp; split
    · rfl
    · split <;> rfl
  constructor
  · intro H i hi
    by_cases h1 : i = a
    · subst h1
      have := H b hb
      simp only [e] at this
      by_cases h2 : b = i
      · subst h2; simpa using this
      · simpa [h2] using this
    · by_cases h2 : i = b
      · subst h2
        have := H a ha
        simpa [e] using this
      · have := H i hi
        simpa only [e, if_neg h1, if_neg h2] using this
  · intro H i hi
    show dot (swp p.1 a b i) x w = dot (swp p.2 a b i) y w
    rw [e, e]
    split
    · exact H b hb
    · split
      · exact H a ha
      · exact H i hi
theorem sol_row {w t c : Nat} {p q : Mx × Mx} {x y : Nat → Nat} (h1 : bnd w p.1) (h2 : bnd w p.2) (ht : t < w) (hc : c < 256) (h0 : c ≠ 0)
    (e1 : ∀ i j, i < w → j < w → q.1 i j = if i = t then gm c (p.1 t j) else p.1 i j) (e2 : ∀ i j, i < w → j < w → q.2 i j = if i = t then gm c (p.2 t j) else p.2 i j) :
    Sol w q x y ↔ Sol w p x y := by
  have e : ∀ (M N : Mx) i x, bnd w M → i < w → (∀ i j, i < w → j < w → N i j = if i = t then gm c (M t j) else M i j) → dot (N i) x w = if i = t then gm c (dot (M t) x w) else dot (M i) x w := by
    intro M N i x hM hi hN
    by_cases h : i = t
    · subst h
      rw [if_pos rfl, ← dot_scl hc w (fun j hj => hM i j hi hj)]
      exact dot_congr w (fun j hj => by rw [hN i j hi hj, if_pos rfl]) (fun _ _ => rfl)
    · rw [if_neg h]
      exact dot_congr w (fun j hj => by rw [hN i j hi hj, if_neg h]) (fun _ _ => rfl)
  constructor
  · intro H i hi
    have hir := H i hi
    rw [e p.1 q.1 i x h1 hi e1, e p.2 q.2 i y h2 hi e2] at hir
    by_cases h : i = t
    · subst h
      rw [if_pos rfl, if_pos rfl] at hir
      exact gm_cancel hc h0 (dot_lt w fun j hj => h1 i j hi hj) (dot_lt w fun j hj => h2 i j hi hj) hir
    · rw [if_neg h, if_neg h] at hir
      exact hir
  · intro H i hi
    rw [e p.1 q.1 i x h1 hi e1, e p.2 q.2 i y h2 hi e2]
    split
    · rw [H t ht]
    · exact H i hi
theorem sol_stp {w i k : Nat} {p : Mx × Mx} {x y : Nat → Nat} (h1 : bnd w p.1) (h2 : bnd w p.2) (hi : i < w) (hk : k < w) : Sol w (stp i p k) x y ↔ Sol w p x y := by
  unfold stp
  split
  · rename_i h
    exact sol_add h1 h2 hk hi (fun e => h.1 e.symm) (h1 k i hk hi)
  · exact Iff.rfl
theorem sol_elim {w i : Nat} {p : Mx × Mx} {x y : Nat → Nat} (h1 : bnd w p.1) (h2 : bnd w p.2) (hi : i < w) : ∀ n, n ≤ w → (Sol w (elim i p n) x y ↔ Sol w p x y)
  | 0, _ => Iff.rfl
  | n + 1, h => by
    obtain ⟨a, b⟩ := elim_bnd h1 h2 hi n (by omega)
    rw [elim, sol_stp a b hi (by omega)]
    exact sol_elim h1 h2 hi n (by omega)
/-- The first n columns are those of the unit matrix. -/
def Uc (w : Nat) (A : Mx) (n : Nat) : Prop := ∀ i j, i < w → j < n → A i j = idM i j
theorem elim_row {w i : Nat} {p : Mx × Mx} : ∀ n k j, (elim i p n).1 k j = if k < n ∧ k ≠ i then p.1 k j ^^^ gm (p.1 k i) (p.1 i j) else p.1 k j
  | 0, k, j => by simp [elim]
  | n + 1, k, j => by
    have ih := elim_row (w := w) (i := i) (p := p) n
    rw [elim]
    generalize elim i p n = E at *
    have hi := fun j => ih i j
    simp only [ne_eq, not_true_eq_false, and_false, if_false] at hi
    have hn := fun j => ih n j
    simp only [Nat.lt_irrefl, false_and, if_false] at hn
    unfold stp
    split
    · rename_i h
      simp only [addRow]
      by_cases hk : k = n
      · subst hk
        rw [if_pos rfl, if_pos ⟨by omega, h.1⟩, hn, hn, hi]
      · rw [if_neg hk, ih]
        by_cases h3 : k < n ∧ k ≠ i
        · rw [if_pos h3, if_pos ⟨by omega, h3.2⟩]
        · rw [if_neg h3, if_neg (by omega)]
    · rename_i h
      rw [ih]
      by_cases hk : k = n
      · subst hk
        rw [if_neg (by omega)]
        by_cases hki : k = i
        · rw [if_neg (by omega)]
        · have : p.1 k i = 0 := by
            rw [← hn]
            by_cases h0 : E.1 k i = 0
            · exact h0
            · exact absurd ⟨hki, h0⟩ h
          rw [if_pos ⟨by omega, hki⟩, this, gm_0]; simp
      · by_cases h3 : k < n ∧ k ≠ i
        · rw [if_pos h3, if_pos ⟨by omega, h3.2⟩]
        · rw [if_neg h3, if_neg (by omega)]
theorem elim_uc {w i : Nat} {p : Mx × Mx} (h1 : bnd w p.1) (hi : i < w) (hu : Uc w p.1 i) (h11 : p.1 i i = 1) : Uc w (elim i p w).1 (i + 1) := by
  intro k j hk hj
  rw [elim_row (w := w)]
  by_cases hki : k = i
  · subst hki
    rw [if_neg (by omega)]
    by_cases hjk : j = k
    · subst hjk; rw [h11]; simp [idM]
    · exact hu k j hk (by omega)
  · rw [if_pos ⟨hk, hki⟩]
    by_cases hji : j = i
    · subst hji
      rw [h11, gm_comm _ (h1 k j hk hi) 1 (by decide), gm_one _ (h1 k j hk hi)]
      simp [idM, hki]
    · have e1 := hu i j hi (by omega)
      have e2 := hu k j hk (by omega)
      rw [e1, e2]
      simp [idM, show ¬ i = j by omega, gm_0']
structure Inv (w n : Nat) (p0 p : Mx × Mx) : Prop where
  b1 : bnd w p.1
  b2 : bnd w p.2
  uc : Uc w p.1 n
  sol : ∀ x y, Sol w p x y ↔ Sol w p0 x y
theorem inv_scaled {w i : Nat} {p0 p q : Mx × Mx} (hi : i < w) (h : Inv w i p0 p) (hne : p.1 i i ≠ 0)
    (e1 : ∀ a j, a < w → j < w → q.1 a j = if a = i then gm (inv (p.1 i i)) (p.1 i j) else p.1 a j) (e2 : ∀ a j, a < w → j < w → q.2 a j = if a = i then gm (inv (p.1 i i)) (p.2 i j) else p.2 a j) :
    Inv w (i + 1) p0 (elim i q w) := by
  have hv := h.b1 i i hi hi
  have hil := inv_lt hv
  have b1 : bnd w q.1 := fun a j ha hj => by
    rw [e1 a j ha hj]; split
    · exact gm_lt hil
    · exact h.b1 a j ha hj
  have b2 : bnd w q.2 := fun a j ha hj => by
    rw [e2 a j ha hj]; split
    · exact gm_lt hil
    · exact h.b2 a j ha hj
  obtain ⟨c1, c2⟩ := elim_bnd (i := i) b1 b2 hi w (Nat.le_refl _)
  refine ⟨c1, c2, elim_uc b1 hi ?_ ?_, fun x y => ?_⟩
  · intro a j ha hj
    rw [e1 a j ha (by omega)]
    split
    · rename_i he
      subst he
      have := h.uc a j ha hj
      rw [this]
      simp [idM, show ¬ a = j by omega, gm_0']
    · exact h.uc a j ha hj
  · rw [e1 i i hi hi, if_pos rfl]
    exact inv_gm _ hv hne
  · rw [sol_elim b1 b2 hi w (Nat.le_refl _), sol_row h.b1 h.b2 hi hil (inv_ne _ hv hne) e1 e2]
    exact h.sol x y
theorem fst_spec {w i k : Nat} {A : Mx} (h : fst w A i = some k) : i ≤ k ∧ k < w ∧ A k i ≠ 0 := by
  unfold fst at h
  have h1 := List.find?_some h
  have h2 := List.mem_of_find?_eq_some h
  simp at h1 h2
  exact ⟨h1.1, h2, h1.2⟩
theorem fst_spec_none {w i : Nat} {A : Mx} (h : fst w A i = none) : ∀ k, i ≤ k → k < w → A k i = 0 := by
  unfold fst at h
  rw [List.find?_eq_none] at h
  intro k h1 h2
  have := h k (by simpa using h2)
  simp at this
  exact this h1
theorem fst_self {w i k : Nat} {A : Mx} (hi : i < w) (h : fst w A i = some k) (hne : A i i ≠ 0) : k = i := by
  have := fst_some hi (Nat.le_refl i) hne fun j h1 h2 => by omega
  rw [this] at h; cases h; rfl
theorem inv_pivI {w i : Nat} {p0 p q : Mx × Mx} (hi : i < w) (h : Inv w i p0 p) (hp : pivI w p i = some q) : Inv w i p0 q ∧ q.1 i i ≠ 0 := by
  unfold pivI at hp
  split at hp
  · cases hp
  · rename_i k hf
    obtain ⟨h1, h2, h3⟩ := fst_spec hf
    simp only [Option.some.injEq] at hp
    subst hp
    by_cases hk : k = i
    · subst hk; rw [if_pos rfl]; exact ⟨h, h3⟩
    · rw [if_neg hk]
      refine ⟨⟨addRow_bnd h.b1 h2 (by decide) hi, addRow_bnd h.b2 h2 (by decide) hi, fun a j ha hj => ?_, fun x y => (sol_add h.b1 h.b2 hi h2 hk (by decide)).trans (h.sol x y)⟩, ?_⟩
      · simp only [addRow]
        split
        · rename_i he
          subst he
          rw [h.uc a j ha hj, h.uc k j h2 hj]
          simp [idM, show ¬ k = j by omega, gm_0']
        · exact h.uc a j ha hj
      · simp only [addRow, if_true]
        have : p.1 i i = 0 := by
          by_cases h0 : p.1 i i = 0
          · exact h0
          · exact absurd (fst_self hi hf h0) hk
        rw [this, gm_one _ (h.b1 k i h2 hi)]
        simpa using h3
theorem inv_pivS {w i : Nat} {p0 p q : Mx × Mx} (hi : i < w) (h : Inv w i p0 p) (hp : pivS w p i = some q) : Inv w i p0 q ∧ q.1 i i ≠ 0 := by
  unfold pivS at hp
  split at hp
  · cases hp
  · rename_i k hf
    obtain ⟨h1, h2, h3⟩ := fst_spec hf
    simp only [Option.some.injEq] at hp
    subst hp
    refine ⟨⟨swp_bnd h.b1 hi h2, swp_bnd h.b2 hi h2, fun a j ha hj => ?_, fun x y => (sol_swp hi h2).trans (h.sol x y)⟩, ?_⟩
    · simp only [swp]
      split
      · rename_i he
        subst he
        rw [h.uc k j h2 hj]; simp [idM, show ¬ k = j by omega, show ¬ a = j by omega]
      · split
        · rename_i _ he
          subst he
          rw [h.uc i j hi hj]; simp [idM, show ¬ i = j by omega, show ¬ a = j by omega]
        · exact h.uc a j ha hj
    · simpa [swp] using h3
theorem inv_stepI {w i : Nat} {p0 p q : Mx × Mx} (hi : i < w) (h : Inv w i p0 p) (hp : stepI w p i = some q) : Inv w (i + 1) p0 q := by
  unfold stepI at hp
  rw [Option.map_eq_some_iff] at hp
  obtain ⟨r, hr, rfl⟩ := hp
  obtain ⟨h', hne⟩ := inv_pivI hi h hr
  have hil := inv_lt (h'.b1 i i hi hi)
  have e : ∀ (M : Mx) c, c < 256 → bnd w M → ∀ a j, a < w → j < w → addRow M i i (c ^^^ 1) a j = if a = i then gm c (M i j) else M a j := by
    intro M c hc hM a j ha hj
    simp only [addRow]
    split
    · rw [gm_xor hc (by decide), gm_one _ (hM i j hi hj), Nat.xor_comm (gm c _), ← Nat.xor_assoc, Nat.xor_self, Nat.zero_xor]
    · rfl
  exact inv_scaled hi h' hne (e r.1 _ hil h'.b1) (e r.2 _ hil h'.b2)
theorem inv_stepS {w i : Nat} {p0 p q : Mx × Mx} (hi : i < w) (h : Inv w i p0 p) (hp : stepS w p i = some q) : Inv w (i + 1) p0 q := by
  unfold stepS at hp
  rw [Option.map_eq_some_iff] at hp
  obtain ⟨r, hr, rfl⟩ := hp
  obtain ⟨h', hne⟩ := inv_pivS hi h hr
  exact inv_scaled hi h' hne (fun a j _ _ => rfl) (fun a j _ _ => rfl)
/-- What an elimination comes to. -/
def Good (w : Nat) (p0 : Mx × Mx) : Option (Mx × Mx) → Prop
  | some p => Inv w w p0 p
  | none => ∃ x m, m < w ∧ (∀ j, x j < 256) ∧ x m ≠ 0 ∧ Sol w p0 x (fun _ => 0)
theorem good_none {w m : Nat} {p0 p : Mx × Mx} (hm : m < w) (h : Inv w m p0 p) (hz : ∀ k, m ≤ k → k < w → p.1 k m = 0) : Good w p0 none := by
  refine ⟨fun j => if j < m then (if p.1 j m < 256 then p.1 j m else 0) else if j = m then 1 else 0, m, hm, fun j => ?_, by simp, ?_⟩
  · simp only
    split
    · split
      · assumption
      · decide
    · split <;> decide
  · rw [← h.sol]
    intro i hi
    rw [dot_zero]
    generalize hx : (fun j => if j < m then (if p.1 j m < 256 then p.1 j m else 0) else if j = m then 1 else 0) = x
    have xb : ∀ j, x j < 256 := fun j => by
      subst hx
      simp only
      split
      · split
        · assumption
        · decide
      · split <;> decide
    have xm : x m = 1 := by subst hx; simp
    have xs : ∀ j, j < m → x j = p.1 j m := fun j hj => by subst hx; simp [hj, h.b1 j m (by omega) hm]
    have xg : ∀ j, m < j → x j = 0 := fun j hj => by subst hx; simp [show ¬ j < m by omega, show ¬ j = m by omega]
    have d0 := dot_unit (r := p.1 i) (x := x) (i := i) m (fun j hj => h.uc i j hi hj) (fun j _ => xb j)
    have d1 : dot (p.1 i) x (m + 1) = 0 := by
      rw [dot, d0, xm, gm_comm _ (h.b1 i m hi hm) 1 (by decide), gm_one _ (h.b1 i m hi hm)]
      by_cases him : i < m
      · rw [if_pos him, xs i him, Nat.xor_self]
      · rw [if_neg him, hz i (by omega) hi]; rfl
    have d2 : ∀ n, dot (p.1 i) x (m + 1 + n) = 0 := by
      intro n
      induction n with
      | zero => exact d1
      | succ n ih => rw [← Nat.add_assoc, dot, ih, xg _ (by omega), gm_0']; rfl
    have := d2 (w - (m + 1))
    rw [show m + 1 + (w - (m + 1)) = w by omega] at this
    exact this
theorem good_runI {w : Nat} {p0 : Mx × Mx} (h1 : bnd w p0.1) (h2 : bnd w p0.2) : ∀ n, n ≤ w → (∀ p, runI w p0 n = some p → Inv w n p0 p) ∧ (runI w p0 n = none → Good w p0 none)
  | 0, _ => ⟨fun p hp => by simp only [runI, Option.some.injEq] at hp; subst hp; exact ⟨h1, h2, fun i j _ hj => by omega, fun _ _ => Iff.rfl⟩, fun h => by simp [runI] at h⟩
  | n + 1, hn => by
    obtain ⟨ih1, ih2⟩ := good_runI h1 h2 n (by omega)
    rw [runI]
    cases hr : runI w p0 n with
    | none => exact ⟨fun p hp => by simp at hp, fun _ => ih2 hr⟩
    | some q =>
      have hq := ih1 q hr
      refine ⟨fun p hp => inv_stepI (by omega) hq hp, fun h => ?_⟩
      simp only [Option.bind_some, stepI, Option.map_eq_none_iff] at h
      unfold pivI at h
      split at h
      · rename_i hf
        exact good_none (by omega) hq (fst_spec_none hf)
      · cases h
theorem good_runS {w : Nat} {p0 : Mx × Mx} (h1 : bnd w p0.1) (h2 : bnd w p0.2) : ∀ n, n ≤ w → (∀ p, runS w p0 n = some p → Inv w n p0 p) ∧ (runS w p0 n = none → Good w p0 none)
  | 0, _ => ⟨fun p hp => by simp only [runS, Option.some.injEq] at hp; subst hp; exact ⟨h1, h2, fun i j _ hj => by omega, fun _ _ => Iff.rfl⟩, fun h => by simp [runS] at h⟩
  | n + 1, hn => by
    obtain ⟨ih1, ih2⟩ := good_runS h1 h2 n (by omega)
    rw [runS]
    cases hr : runS w p0 n with
    | none => exact ⟨fun p hp => by simp at hp, fun _ => ih2 hr⟩
    | some q =>
      have hq := ih1 q hr
      refine ⟨fun p hp => inv_stepS (by omega) hq hp, fun h => ?_⟩
      simp only [Option.bind_some, stepS, Option.map_eq_none_iff] at h
      unfold pivS at h
      split at h
      · rename_i hf
        exact good_none (by omega) hq (fst_spec_none hf)
      · cases h
theorem good_all {w : Nat} {p0 : Mx × Mx} (h1 : bnd w p0.1) (h2 : bnd w p0.2) : Good w p0 (runI w p0 w) ∧ Good w p0 (runS w p0 w) := by
  constructor
  · have := good_runI h1 h2 w (Nat.le_refl _)
    cases h : runI w p0 w with
    | none => exact this.2 h
    | some p => exact this.1 p h
  · have := good_runS h1 h2 w (Nat.le_refl _)
    cases h : runS w p0 w with
    | none => exact this.2 h
    | some p => exact this.1 p h
theorem sol_full {w : Nat} {p0 p : Mx × Mx} (h : Inv w w p0 p) {x y : Nat → Nat} (hx : ∀ j, j < w → x j < 256) : Sol w p0 x y ↔ ∀ i, i < w → x i = dot (p.2 i) y w := by
  rw [← h.sol]
  have e : ∀ i, i < w → dot (p.1 i) x w = x i := fun i hi => by
    rw [dot_unit (i := i) w (fun j hj => h.uc i j hi hj) hx, if_pos hi]
  constructor
  · intro H i hi; rw [← e i hi]; exact H i hi
  · intro H i hi; rw [e i hi]; exact H i hi
theorem no_both {w : Nat} {p0 p : Mx × Mx} (h : Inv w w p0 p) (hn : Good w p0 none) : False := by
  obtain ⟨x, m, hm, hb, hne, hs⟩ := hn
  rw [sol_full h (fun j _ => hb j)] at hs
  have := hs m hm
  rw [dot_zero] at this
  exact hne this
theorem same_inv {w : Nat} {p0 p q : Mx × Mx} (h : Inv w w p0 p) (h' : Inv w w p0 q) {i j : Nat} (hi : i < w) (hj : j < w) : p.2 i j = q.2 i j := by
  have u : ∀ (M : Mx), bnd w M → ∀ i, i < w → dot (M i) (idM j) w = M i j := by
    intro M hM i hi
    have hc : dot (M i) (idM j) w = dot (idM j) (M i) w := by
      have : ∀ n, n ≤ w → dot (M i) (idM j) n = dot (idM j) (M i) n := by
        intro n
        induction n with
        | zero => intro _; rfl
        | succ n ih =>
          intro hn
          rw [dot, dot, ih (by omega), gm_comm _ (hM i n hi (by omega)) _ (idM_bnd w j n hj (by omega))]
      exact this w (Nat.le_refl _)
    rw [hc, dot_unit (i := j) w (fun _ _ => rfl) (fun a ha => hM i a hi ha), if_pos hj]
  have hx : ∀ a, a < w → p.2 a j < 256 := fun a ha => h.b2 a j ha hj
  have s1 : Sol w p0 (fun a => p.2 a j) (idM j) := by
    rw [sol_full h hx]
    intro a ha
    exact (u p.2 h.b2 a ha).symm
  rw [sol_full h' hx] at s1
  rw [s1 i hi, u q.2 h'.b2 i hi]
theorem both_inv {w : Nat} {M0 : Mx} (h : bnd w M0) : resInv w (runI w (M0, idM) w) = resInv w (runS w (M0, idM) w) := by
  obtain ⟨g1, g2⟩ := good_all (p0 := (M0, idM)) h (idM_bnd w)
  cases h1 : runI w (M0, idM) w with
  | none =>
    cases h2 : runS w (M0, idM) w with
    | none => rfl
    | some q => rw [h1] at g1; rw [h2] at g2; exact (no_both g2 g1).elim
  | some p =>
    cases h2 : runS w (M0, idM) w with
    | none => rw [h1] at g1; rw [h2] at g2; exact (no_both g1 g2).elim
    | some q =>
      rw [h1] at g1; rw [h2] at g2
      simp only [resInv, mb]
      rw [rowsM_congr fun i j hi hj => same_inv g1 g2 hi hj]
end Go.Ae.C3
namespace Go.Ae.C3
set_option linter.unusedSimpArgs false
set_option linter.unusedVariables false
def encU (b : UInt8) : List AV := [.int .u8 b.toNat]
def bAt (l : List UInt8) (i : Nat) : Nat := (l.getD (i % l.length) 0).toNat
def aAt (l : List UInt8) (i n : Nat) : Nat := if n ≤ 1 then 0 else if l.length = 0 then i * 7 % n else (bAt l i * 31 + bAt l (i + 1) + i / l.length) % n
theorem aAt_lt (l : List UInt8) (i n : Nat) (hn : 1 ≤ n) : aAt l i n < n := by
  unfold aAt
  split
  · omega
  · split <;> exact Nat.mod_lt _ (by omega)
theorem a8At (k : Nat) (l : List UInt8) (i n : Nat) (hl : l.length ≤ 1048576) (hi : i ≤ 1000) (hn : n ≤ 1000) : call code (k + 1) 33 [.rd true (rws encU l), .int .i64 i, .int .i64 n] [] = some ⟨.int .i64 (aAt l i n : Nat), [], []⟩ := by
  refine call_run rfl fn33 rfl ?_
  by_cases h1 : n ≤ 1
  · have h1' : decide ((n : Int) ≤ 1) = true := by simp; omega
    simp [F33, h1', aAt, h1]
  have h1' : decide ((n : Int) ≤ 1) = false := by simp; omega
  have hn0 : ¬ n = 0 := by omega
  by_cases h2 : l = []
  · subst h2
    have e1 : IntKind.wrap .i64 ((i : Int) * 7) = ((i * 7 : Nat) : Int) := by rw [wrap64 ⟨by omega, by omega⟩]; omega
    have e2 : ((i * 7 : Nat) : Int).tmod (n : Int) = ((i * 7 % n : Nat) : Int) := rfl
    have hr : aAt [] i n = i * 7 % n := by simp [aAt, h1]
    rw [hr]
    generalize i * 7 % n = r at *
    generalize i * 7 = s at *
    simp [F33, h1', hn0, e1, e2]
  · have h3 : 0 < l.length := List.length_pos_iff.2 h2
    have h3' : ((l.length : Int) == 0) = false := by simp; omega
    have hL : ¬ l.length = 0 := by omega
    have hr : aAt l i n = (bAt l i * 31 + bAt l (i + 1) + i / l.length) % n := by simp [aAt, h1, hL]
    rw [hr]
    have x1 := Nat.mod_lt i h3
    have x2 := Nat.mod_lt (i + 1) h3
    have g1 : ∀ h, (rws encU l)[i % l.length]'h = [.int .u8 ((bAt l i : Nat) : Int)] := fun h => by
      rw [rws_get]; simp [encU, bAt, List.getD_eq_getElem?_getD, List.getElem?_eq_getElem x1]
    have g2 : ∀ h, (rws encU l)[(i + 1) % l.length]'h = [.int .u8 ((bAt l (i + 1) : Nat) : Int)] := fun h => by
      rw [rws_get]; simp [encU, bAt, List.getD_eq_getElem?_getD, List.getElem?_eq_getElem x2]
    have c1 : bAt l i < 256 := by unfold bAt; exact UInt8.toNat_lt _
    have c2 : bAt l (i + 1) < 256 := by unfold bAt; exact UInt8.toNat_lt _
    have c3 : i / l.length ≤ 1000 := Nat.le_trans (Nat.div_le_self _ _) hi
    have d1 : (i : Int).tmod (l.length : Int) = ((i % l.length : Nat) : Int) := rfl
    have d2 : ((i + 1 : Nat) : Int).tmod (l.length : Int) = (((i + 1) % l.length : Nat) : Int) := rfl
    have d3 : (i : Int).tdiv (l.length : Int) = ((i / l.length : Nat) : Int) := rfl
    have hs : IntKind.wrap .i64 ((i : Int) + 1) = ((i + 1 : Nat) : Int) := by rw [wrap64 ⟨by omega, by omega⟩]; omega
    have hln := rws_len (enc := encU) l
    generalize rws encU l = R at *
    generalize l.length = L at *
    generalize i % L = im at *
    generalize (i + 1) % L = jm at *
    generalize i / L = q at *
    generalize i + 1 = j at *
    generalize bAt l i = u at *
    generalize bAt l j = v at *
    have w1 : IntKind.wrap .i64 (u : Int) = (u : Int) := wrap64 ⟨by omega, by omega⟩
    have w2 : IntKind.wrap .i64 (v : Int) = (v : Int) := wrap64 ⟨by omega, by omega⟩
    have w7 : IntKind.wrap .i64 (q : Int) = (q : Int) := wrap64 ⟨by omega, by omega⟩
    have w3 : IntKind.wrap .i64 ((u : Int) * 31) = ((u * 31 : Nat) : Int) := by rw [wrap64 ⟨by omega, by omega⟩]; omega
    have w4 : IntKind.wrap .i64 (((u * 31 : Nat) : Int) + (v : Int)) = ((u * 31 + v : Nat) : Int) := by rw [wrap64 ⟨by omega, by omega⟩]; omega
    have w5 : IntKind.wrap .i64 (((u * 31 + v : Nat) : Int) + (q : Int)) = ((u * 31 + v + q : Nat) : Int) := by rw [wrap64 ⟨by omega, by omega⟩]; omega
    have w6 : ((u * 31 + v + q : Nat) : Int).tmod (n : Int) = (((u * 31 + v + q) % n : Nat) : Int) := rfl
    generalize (u * 31 + v + q) % n = r at *
    generalize u * 31 + v + q = t3 at *
    generalize u * 31 + v = t2 at *
    generalize u * 31 = t1 at *
    simp [F33, h1', hn0, h3', hL, hln, hs, x1, x2, g1, g2, d1, d2, d3, w1, w2, w3, w4, w5, w6, w7]
/-- The places drawn from those below i. -/
def plc (l : List UInt8) (m n : Nat) : Nat → List Nat
  | 0 => []
  | i + 1 => if decide ((plc l m n i).length < m) && (decide (n - i = m - (plc l m n i).length) || decide (aAt l i (n - i) < m - (plc l m n i).length)) then plc l m n i ++ [i] else plc l m n i
theorem plc_len (l : List UInt8) (m n : Nat) : ∀ i, (plc l m n i).length ≤ m
  | 0 => by simp [plc]
  | i + 1 => by
    have := plc_len l m n i
    unfold plc
    split
    · rename_i h
      simp at h
      simp; omega
    · exact this
theorem plc_full (l : List UInt8) (m n : Nat) (hmn : m ≤ n) : ∀ i, i ≤ n → m - (plc l m n i).length ≤ n - i
  | 0, _ => by simp [plc]; exact hmn
  | i + 1, hi => by
    have h1 := plc_full l m n hmn i (by omega)
    have h2 := plc_len l m n i
    unfold plc
    split
    · simp; omega
    · rename_i h
      simp at h
      by_cases h3 : (plc l m n i).length < m
      · have := (h h3).1
        omega
      · omega
theorem plc_all (l : List UInt8) (m n : Nat) (hmn : m ≤ n) : (plc l m n n).length = m := by
  have h1 := plc_full l m n hmn n (Nat.le_refl _)
  have h2 := plc_len l m n n
  omega
end Go.Ae.C3
namespace Go.Ae.C3
set_option linter.unusedSimpArgs false
set_option linter.unusedVariables false
/-- The cells of the rows at some places. -/
def rwsAt (an : List Nat) (w : Nat) (ps : List Nat) : List Nat := ps.flatMap fun p => prt an (p * w) ((p + 1) * w)
theorem rwsAt_len {an : List Nat} {h w : Nat} {ps : List Nat} (la : an.length = h * w) (hp : ∀ p ∈ ps, p < h) : (rwsAt an w ps).length = ps.length * w := by
  induction ps with
  | nil => simp [rwsAt]
  | cons p r ih =>
    have h1 := ih fun q hq => hp q (List.mem_cons_of_mem _ hq)
    have h2 : (p + 1) * w ≤ h * w := Nat.mul_le_mul_right _ (hp p (List.mem_cons_self ..))
    have h3 : (prt an (p * w) ((p + 1) * w)).length = w := by rw [prt_len (by rw [la]; exact h2), Nat.add_mul]; omega
    unfold rwsAt at h1 ⊢
    rw [List.flatMap_cons, List.length_append, h1, h3, List.length_cons, Nat.add_mul]; omega
theorem rwsAt_next {an : List Nat} {w i : Nat} {ps : List Nat} (hi : i < ps.length) : rwsAt an w (ps.take (i + 1)) = rwsAt an w (ps.take i) ++ prt an (ps[i] * w) ((ps[i] + 1) * w) := by
  unfold rwsAt
  rw [List.take_succ_eq_append_getElem hi, List.flatMap_append]; simp
end Go.Ae.C3
