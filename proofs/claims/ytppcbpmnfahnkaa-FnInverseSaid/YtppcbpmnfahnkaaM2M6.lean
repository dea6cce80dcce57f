/- The two eliminations come to the same inverse. -/
import Derived.Test.YtppcbpmnfahnkaaM2M5
namespace Go.Ae.M2
set_option linter.unusedSimpArgs false
set_option linter.unusedVariables false
/-- x and y solve the rows of the pair. -/
def Sol (w : Nat) (p : Mx × Mx) (x y : Nat → Nat) : Prop := ∀ i, i < w → dot (p.1 i) x w = dot (p.2 i) y w
theorem xor_cancel {a b c : Nat} : a ^^^ c = b ^^^ c → a = b := fun h => by
  have := congrArg (· ^^^ c) h
  simpa [Nat.xor_assoc] using this
theorem gm_cancel {c a b : Nat} (hc : c < 256) (h0 : c ≠ 0) (ha : a < 256) (hb : b < 256) (h : gm c a = gm c b) : a = b := by
  have := congrArg (gm (inv c)) h
  rw [gm_assoc a (inv_lt hc) hc, gm_assoc b (inv_lt hc) hc, inv_gm c hc h0, gm_one a ha, gm_one b hb] at this
  exact this
theorem sol_add {w t s c : Nat} {p : Mx × Mx} {x y : Nat → Nat} (h1 : bnd w p.1) (h2 : bnd w p.2) (ht : t < w) (hs : s < w) (hne : s ≠ t) (hc : c < 256) :
    Sol w (addRow p.1 t s c, addRow p.2 t s c) x y ↔ Sol w p x y := by
  have e1 : ∀ (M : Mx) i x, bnd w M → i < w → dot (addRow M t s c i) x w = if i = t then dot (M t) x w ^^^ gm c (dot (M s) x w) else dot (M i) x w := by
    intro M i x hM hi
    by_cases h : i = t
    · subst h
      rw [if_pos rfl, ← dot_add hc w (fun j hj => hM i j hi hj) (fun j hj => hM s j hs hj)]
      exact dot_congr w (fun j _ => by simp [addRow]) (fun _ _ => rfl)
    · rw [if_neg h]
      exact dot_congr w (fun j _ => by simp [addRow, h]) (fun _ _ => rfl)
  constructor
  · intro H i hi
    have hsr := H s hs
    rw [e1 p.1 s x h1 hs, e1 p.2 s y h2 hs, if_neg hne, if_neg hne] at hsr
    have hir := H i hi
    rw [e1 p.1 i x h1 hi, e1 p.2 i y h2 hi] at hir
    by_cases h : i = t
    · subst h
      rw [if_pos rfl, if_pos rfl, hsr] at hir
      exact xor_cancel hir
    · rw [if_neg h, if_neg h] at hir
      exact hir
  · intro H i hi
    show dot (addRow p.1 t s c i) x w = dot (addRow p.2 t s c i) y w
    rw [e1 p.1 i x h1 hi, e1 p.2 i y h2 hi]
    split
    · rw [H t ht, H s hs]
    · exact H i hi
theorem sol_swp {w a b : Nat} {p : Mx × Mx} {x y : Nat → Nat} (ha : a < w) (hb : b < w) : Sol w (swp p.1 a b, swp p.2 a b) x y ↔ Sol w p x y := by
  have e : ∀ (M : Mx) i, swp M a b i = if i = a then M b else if i = b then M a else M i := by
    intro M i; funext j; unfold swp; split
    · rfl
    · split <;> rfl
  constructor
  · intro H i hi
    by_cases h1 : i = a
    · subst h1
      have := H b hb
      simp only [e] at this
      by_cases h2 : b = i
      · subst h2; simpa using this
      · simpa [h2] using this
    · by_cases h2 : i = b
      · subst h2
        have := H a ha
        simpa [e] using this
      · have := H i hi
        simpa only [e, if_neg h1, if_neg h2] using this
  · intro H i hi
    show dot (swp p.1 a b i) x w = dot (swp p.2 a b i) y w
    rw [e, e]
    split
    · exact H b hb
    · split
      · exact H a ha
      · exact H i hi
theorem sol_row {w t c : Nat} {p q : Mx × Mx} {x y : Nat → Nat} (h1 : bnd w p.1) (h2 : bnd w p.2) (ht : t < w) (hc : c < 256) (h0 : c ≠ 0)
    (e1 : ∀ i j, i < w → j < w → q.1 i j = if i = t then gm c (p.1 t j) else p.1 i j) (e2 : ∀ i j, i < w → j < w → q.2 i j = if i = t then gm c (p.2 t j) else p.2 i j) :
    Sol w q x y ↔ Sol w p x y := by
  have e : ∀ (M N : Mx) i x, bnd w M → i < w → (∀ i j, i < w → j < w → N i j = if i = t then gm c (M t j) else M i j) → dot (N i) x w = if i = t then gm c (dot (M t) x w) else dot (M i) x w := by
    intro M N i x hM hi hN
    by_cases h : i = t
    · subst h
      rw [if_pos rfl, ← dot_scl hc w (fun j hj => hM i j hi hj)]
      exact dot_congr w (fun j hj => by rw [hN i j hi hj, if_pos rfl]) (fun _ _ => rfl)
    · rw [if_neg h]
      exact dot_congr w (fun j hj => by rw [hN i j hi hj, if_neg h]) (fun _ _ => rfl)
  constructor
  · intro H i hi
    have hir := H i hi
    rw [e p.1 q.1 i x h1 hi e1, e p.2 q.2 i y h2 hi e2] at hir
    by_cases h : i = t
    · subst h
      rw [if_pos rfl, if_pos rfl] at hir
      exact gm_cancel hc h0 (dot_lt w fun j hj => h1 i j hi hj) (dot_lt w fun j hj => h2 i j hi hj) hir
    · rw [if_neg h, if_neg h] at hir
      exact hir
  · intro H i hi
    rw [e p.1 q.1 i x h1 hi e1, e p.2 q.2 i y h2 hi e2]
    split
    · rw [H t ht]
    · exact H i hi
theorem sol_stp {w i k : Nat} {p : Mx × Mx} {x y : Nat → Nat} (h1 : bnd w p.1) (h2 : bnd w p.2) (hi : i < w) (hk : k < w) : Sol w (stp i p k) x y ↔ Sol w p x y := by
  unfold stp
  split
  · rename_i h
    exact sol_add h1 h2 hk hi (fun e => h.1 e.symm) (h1 k i hk hi)
  · exact Iff.rfl
theorem sol_elim {w i : Nat} {p : Mx × Mx} {x y : Nat → Nat} (h1 : bnd w p.1) (h2 : bnd w p.2) (hi : i < w) : ∀ n, n ≤ w → (Sol w (elim i p n) x y ↔ Sol w p x y)
  | 0, _ => Iff.rfl
  | n + 1, h => by
    obtain ⟨a, b⟩ := elim_bnd h1 h2 hi n (by omega)
    rw [elim, sol_stp a b hi (by omega)]
    exact sol_elim h1 h2 hi n (by omega)
/-- The first n columns are those of the unit matrix. -/
def Uc (w : Nat) (A : Mx) (n : Nat) : Prop := ∀ i j, i < w → j < n → A i j = idM i j
theorem elim_row {w i : Nat} {p : Mx × Mx} : ∀ n k j, (elim i p n).1 k j = if k < n ∧ k ≠ i then p.1 k j ^^^ gm (p.1 k i) (p.1 i j) else p.1 k j
  | 0, k, j => by simp [elim]
  | n + 1, k, j => by
    have ih := elim_row (w := w) (i := i) (p := p) n
    rw [elim]
    generalize elim i p n = E at *
    have hi := fun j => ih i j
    simp only [ne_eq, not_true_eq_false, and_false, if_false] at hi
    have hn := fun j => ih n j
    simp only [Nat.lt_irrefl, false_and, if_false] at hn
    unfold stp
    split
    · rename_i h
      simp only [addRow]
      by_cases hk : k = n
      · subst hk
        rw [if_pos rfl, if_pos ⟨by omega, h.1⟩, hn, hn, hi]
      · rw [if_neg hk, ih]
        by_cases h3 : k < n ∧ k ≠ i
        · rw [if_pos h3, if_pos ⟨by omega, h3.2⟩]
        · rw [if_neg h3, if_neg (by omega)]
    · rename_i h
      rw [ih]
      by_cases hk : k = n
      · subst hk
        rw [if_neg (by omega)]
        by_cases hki : k = i
        · rw [if_neg (by omega)]
        · have : p.1 k i = 0 := by
            rw [← hn]
            by_cases h0 : E.1 k i = 0
            · exact h0
            · exact absurd ⟨hki, h0⟩ h
          rw [if_pos ⟨by omega, hki⟩, this, gm_0]; simp
      · by_cases h3 : k < n ∧ k ≠ i
        · rw [if_pos h3, if_pos ⟨by omega, h3.2⟩]
        · rw [if_neg h3, if_neg (by omega)]
theorem elim_uc {w i : Nat} {p : Mx × Mx} (h1 : bnd w p.1) (hi : i < w) (hu : Uc w p.1 i) (h11 : p.1 i i = 1) : Uc w (elim i p w).1 (i + 1) := by
  intro k j hk hj
  rw [elim_row (w := w)]
  by_cases hki : k = i
  · subst hki
    rw [if_neg (by omega)]
    by_cases hjk : j = k
    · subst hjk; rw [h11]; simp [idM]
    · exact hu k j hk (by omega)
  · rw [if_pos ⟨hk, hki⟩]
    by_cases hji : j = i
    · subst hji
      rw [h11, gm_comm _ (h1 k j hk hi) 1 (by decide), gm_one _ (h1 k j hk hi)]
      simp [idM, hki]
    · have e1 := hu i j hi (by omega)
      have e2 := hu k j hk (by omega)
      rw [e1, e2]
      simp [idM, show ¬ i = j by omega, gm_0']
structure Inv (w n : Nat) (p0 p : Mx × Mx) : Prop where
  b1 : bnd w p.1
  b2 : bnd w p.2
  uc : Uc w p.1 n
  sol : ∀ x y, Sol w p x y ↔ Sol w p0 x y
theorem inv_scaled {w i : Nat} {p0 p q : Mx × Mx} (hi : i < w) (h : Inv w i p0 p) (hne : p.1 i i ≠ 0)
    (e1 : ∀ a j, a < w → j < w → q.1 a j = if a = i then gm (inv (p.1 i i)) (p.1 i j) else p.1 a j) (e2 : ∀ a j, a < w → j < w → q.2 a j = if a = i then gm (inv (p.1 i i)) (p.2 i j) else p.2 a j) :
    Inv w (i + 1) p0 (elim i q w) := by
  have hv := h.b1 i i hi hi
  have hil := inv_lt hv
  have b1 : bnd w q.1 := fun a j ha hj => by
    rw [e1 a j ha hj]; split
    · exact gm_lt hil
    · exact h.b1 a j ha hj
  have b2 : bnd w q.2 := fun a j ha hj => by
    rw [e2 a j ha hj]; split
    · exact gm_lt hil
    · exact h.b2 a j ha hj
  obtain ⟨c1, c2⟩ := elim_bnd (i := i) b1 b2 hi w (Nat.le_refl _)
  refine ⟨c1, c2, elim_uc b1 hi ?_ ?_, fun x y => ?_⟩
  · intro a j ha hj
    rw [e1 a j ha (by omega)]
    split
    · rename_i he
      subst he
      have := h.uc a j ha hj
      rw [this]
      simp [idM, show ¬ a = j by omega, gm_0']
    · exact h.uc a j ha hj
  · rw [e1 i i hi hi, if_pos rfl]
    exact inv_gm _ hv hne
  · rw [sol_elim b1 b2 hi w (Nat.le_refl _), sol_row h.b1 h.b2 hi hil (inv_ne _ hv hne) e1 e2]
    exact h.sol x y
theorem fst_spec {w i k : Nat} {A : Mx} (h : fst w A i = some k) : i ≤ k ∧ k < w ∧ A k i ≠ 0 := by
  unfold fst at h
  have h1 := List.find?_some h
  have h2 := List.mem_of_find?_eq_some h
  simp at h1 h2
  exact ⟨h1.1, h2, h1.2⟩
theorem fst_spec_none {w i : Nat} {A : Mx} (h : fst w A i = none) : ∀ k, i ≤ k → k < w → A k i = 0 := by
  unfold fst at h
  rw [List.find?_eq_none] at h
  intro k h1 h2
  have := h k (by simpa using h2)
  simp at this
  exact this h1
theorem fst_self {w i k : Nat} {A : Mx} (hi : i < w) (h : fst w A i = some k) (hne : A i i ≠ 0) : k = i := by
  have := fst_some hi (Nat.le_refl i) hne fun j h1 h2 => by omega
  rw [this] at h; cases h; rfl
theorem inv_pivI {w i : Nat} {p0 p q : Mx × Mx} (hi : i < w) (h : Inv w i p0 p) (hp : pivI w p i = some q) : Inv w i p0 q ∧ q.1 i i ≠ 0 := by
  unfold pivI at hp
  split at hp
  · cases hp
  · rename_i k hf
    obtain ⟨h1, h2, h3⟩ := fst_spec hf
    simp only [Option.some.injEq] at hp
    subst hp
    by_cases hk : k = i
    · subst hk; rw [if_pos rfl]; exact ⟨h, h3⟩
    · rw [if_neg hk]
      refine ⟨⟨addRow_bnd h.b1 h2 (by decide) hi, addRow_bnd h.b2 h2 (by decide) hi, fun a j ha hj => ?_, fun x y => (sol_add h.b1 h.b2 hi h2 hk (by decide)).trans (h.sol x y)⟩, ?_⟩
      · simp only [addRow]
        split
        · rename_i he
          subst he
          rw [h.uc a j ha hj, h.uc k j h2 hj]
          simp [idM, show ¬ k = j by omega, gm_0']
        · exact h.uc a j ha hj
      · simp only [addRow, if_true]
        have : p.1 i i = 0 := by
          by_cases h0 : p.1 i i = 0
          · exact h0
          · exact absurd (fst_self hi hf h0) hk
        rw [this, gm_one _ (h.b1 k i h2 hi)]
        simpa using h3
theorem inv_pivS {w i : Nat} {p0 p q : Mx × Mx} (hi : i < w) (h : Inv w i p0 p) (hp : pivS w p i = some q) : Inv w i p0 q ∧ q.1 i i ≠ 0 := by
  unfold pivS at hp
  split at hp
  · cases hp
  · rename_i k hf
    obtain ⟨h1, h2, h3⟩ := fst_spec hf
    simp only [Option.some.injEq] at hp
    subst hp
    refine ⟨⟨swp_bnd h.b1 hi h2, swp_bnd h.b2 hi h2, fun a j ha hj => ?_, fun x y => (sol_swp hi h2).trans (h.sol x y)⟩, ?_⟩
    · simp only [swp]
      split
      · rename_i he
        subst he
        rw [h.uc k j h2 hj]; simp [idM, show ¬ k = j by omega, show ¬ a = j by omega]
      · split
        · rename_i _ he
          subst he
          rw [h.uc i j hi hj]; simp [idM, show ¬ i = j by omega, show ¬ a = j by omega]
        · exact h.uc a j ha hj
    · simpa [swp] using h3
theorem inv_stepI {w i : Nat} {p0 p q : Mx × Mx} (hi : i < w) (h : Inv w i p0 p) (hp : stepI w p i = some q) : Inv w (i + 1) p0 q := by
  unfold stepI at hp
  rw [Option.map_eq_some_iff] at hp
  obtain ⟨r, hr, rfl⟩ := hp
  obtain ⟨h', hne⟩ := inv_pivI hi h hr
  have hil := inv_lt (h'.b1 i i hi hi)
  have e : ∀ (M : Mx) c, c < 256 → bnd w M → ∀ a j, a < w → j < w → addRow M i i (c ^^^ 1) a j = if a = i then gm c (M i j) else M a j := by
    intro M c hc hM a j ha hj
    simp only [addRow]
    split
    · rw [gm_xor hc (by decide), gm_one _ (hM i j hi hj), Nat.xor_comm (gm c _), ← Nat.xor_assoc, Nat.xor_self, Nat.zero_xor]
    · rfl
  exact inv_scaled hi h' hne (e r.1 _ hil h'.b1) (e r.2 _ hil h'.b2)
theorem inv_stepS {w i : Nat} {p0 p q : Mx × Mx} (hi : i < w) (h : Inv w i p0 p) (hp : stepS w p i = some q) : Inv w (i + 1) p0 q := by
  unfold stepS at hp
  rw [Option.map_eq_some_iff] at hp
  obtain ⟨r, hr, rfl⟩ := hp
  obtain ⟨h', hne⟩ := inv_pivS hi h hr
  exact inv_scaled hi h' hne (fun a j _ _ => rfl) (fun a j _ _ => rfl)
/-- What an elimination comes to. -/
def Good (w : Nat) (p0 : Mx × Mx) : Option (Mx × Mx) → Prop
  | some p => Inv w w p0 p
  | none => ∃ x m, m < w ∧ (∀ j, x j < 256) ∧ x m ≠ 0 ∧ Sol w p0 x (fun _ => 0)
theorem good_none {w m : Nat} {p0 p : Mx × Mx} (hm : m < w) (h : Inv w m p0 p) (hz : ∀ k, m ≤ k → k < w → p.1 k m = 0) : Good w p0 none := by
  refine ⟨fun j => if j < m then (if p.1 j m < 256 then p.1 j m else 0) else if j = m then 1 else 0, m, hm, fun j => ?_, by simp, ?_⟩
  · simp only
    split
    · split
      · assumption
      · decide
    · split <;> decide
  · rw [← h.sol]
    intro i hi
    rw [dot_zero]
    generalize hx : (fun j => if j < m then (if p.1 j m < 256 then p.1 j m else 0) else if j = m then 1 else 0) = x
    have xb : ∀ j, x j < 256 := fun j => by
      subst hx
      simp only
      split
      · split
        · assumption
        · decide
      · split <;> decide
    have xm : x m = 1 := by subst hx; simp
    have xs : ∀ j, j < m → x j = p.1 j m := fun j hj => by subst hx; simp [hj, h.b1 j m (by omega) hm]
    have xg : ∀ j, m < j → x j = 0 := fun j hj => by subst hx; simp [show ¬ j < m by omega, show ¬ j = m by omega]
    have d0 := dot_unit (r := p.1 i) (x := x) (i := i) m (fun j hj => h.uc i j hi hj) (fun j _ => xb j)
    have d1 : dot (p.1 i) x (m + 1) = 0 := by
      rw [dot, d0, xm, gm_comm _ (h.b1 i m hi hm) 1 (by decide), gm_one _ (h.b1 i m hi hm)]
      by_cases him : i < m
      · rw [if_pos him, xs i him, Nat.xor_self]
      · rw [if_neg him, hz i (by omega) hi]; rfl
    have d2 : ∀ n, dot (p.1 i) x (m + 1 + n) = 0 := by
      intro n
      induction n with
      | zero => exact d1
      | succ n ih => rw [← Nat.add_assoc, dot, ih, xg _ (by omega), gm_0']; rfl
    have := d2 (w - (m + 1))
    rw [show m + 1 + (w - (m + 1)) = w by omega] at this
    exact this
theorem good_runI {w : Nat} {p0 : Mx × Mx} (h1 : bnd w p0.1) (h2 : bnd w p0.2) : ∀ n, n ≤ w → (∀ p, runI w p0 n = some p → Inv w n p0 p) ∧ (runI w p0 n = none → Good w p0 none)
  | 0, _ => ⟨fun p hp => by simp only [runI, Option.some.injEq] at hp; subst hp; exact ⟨h1, h2, fun i j _ hj => by omega, fun _ _ => Iff.rfl⟩, fun h => by simp [runI] at h⟩
  | n + 1, hn => by
    obtain ⟨ih1, ih2⟩ := good_runI h1 h2 n (by omega)
    rw [runI]
    cases hr : runI w p0 n with
    | none => exact ⟨fun p hp => by simp at hp, fun _ => ih2 hr⟩
    | some q =>
      have hq := ih1 q hr
      refine ⟨fun p hp => inv_stepI (by omega) hq hp, fun h => ?_⟩
      simp only [Option.bind_some, stepI, Option.map_eq_none_iff] at h
      unfold pivI at h
      split at h
      · rename_i hf
        exact good_none (by omega) hq (fst_spec_none hf)
      · cases h
theorem good_runS {w : Nat} {p0 : Mx × Mx} (h1 : bnd w p0.1) (h2 : bnd w p0.2) : ∀ n, n ≤ w → (∀ p, runS w p0 n = some p → Inv w n p0 p) ∧ (runS w p0 n = none → Good w p0 none)
  | 0, _ => ⟨fun p hp => by simp only [runS, Option.some.injEq] at hp; subst hp; exact ⟨h1, h2, fun i j _ hj => by omega, fun _ _ => Iff.rfl⟩, fun h => by simp [runS] at h⟩
  | n + 1, hn => by
    obtain ⟨ih1, ih2⟩ := good_runS h1 h2 n (by omega)
    rw [runS]
    cases hr : runS w p0 n with
    | none => exact ⟨fun p hp => by simp at hp, fun _ => ih2 hr⟩
    | some q =>
      have hq := ih1 q hr
      refine ⟨fun p hp => inv_stepS (by omega) hq hp, fun h => ?_⟩
      simp only [Option.bind_some, stepS, Option.map_eq_none_iff] at h
      unfold pivS at h
      split at h
      · rename_i hf
        exact good_none (by omega) hq (fst_spec_none hf)
      · cases h
theorem good_all {w : Nat} {p0 : Mx × Mx} (h1 : bnd w p0.1) (h2 : bnd w p0.2) : Good w p0 (runI w p0 w) ∧ Good w p0 (runS w p0 w) := by
  constructor
  · have := good_runI h1 h2 w (Nat.le_refl _)
    cases h : runI w p0 w with
    | none => exact this.2 h
    | some p => exact this.1 p h
  · have := good_runS h1 h2 w (Nat.le_refl _)
    cases h : runS w p0 w with
    | none => exact this.2 h
    | some p => exact this.1 p h
theorem sol_full {w : Nat} {p0 p : Mx × Mx} (h : Inv w w p0 p) {x y : Nat → Nat} (hx : ∀ j, j < w → x j < 256) : Sol w p0 x y ↔ ∀ i, i < w → x i = dot (p.2 i) y w := by
  rw [← h.sol]
  have e : ∀ i, i < w → dot (p.1 i) x w = x i := fun i hi => by
    rw [dot_unit (i := i) w (fun j hj => h.uc i j hi hj) hx, if_pos hi]
  constructor
  · intro H i hi; rw [← e i hi]; exact H i hi
  · intro H i hi; rw [e i hi]; exact H i hi
theorem no_both {w : Nat} {p0 p : Mx × Mx} (h : Inv w w p0 p) (hn : Good w p0 none) : False := by
  obtain ⟨x, m, hm, hb, hne, hs⟩ := hn
  rw [sol_full h (fun j _ => hb j)] at hs
  have := hs m hm
  rw [dot_zero] at this
  exact hne this
theorem same_inv {w : Nat} {p0 p q : Mx × Mx} (h : Inv w w p0 p) (h' : Inv w w p0 q) {i j : Nat} (hi : i < w) (hj : j < w) : p.2 i j = q.2 i j := by
  have u : ∀ (M : Mx), bnd w M → ∀ i, i < w → dot (M i) (idM j) w = M i j := by
    intro M hM i hi
    have hc : dot (M i) (idM j) w = dot (idM j) (M i) w := by
      have : ∀ n, n ≤ w → dot (M i) (idM j) n = dot (idM j) (M i) n := by
        intro n
        induction n with
        | zero => intro _; rfl
        | succ n ih =>
          intro hn
          rw [dot, dot, ih (by omega), gm_comm _ (hM i n hi (by omega)) _ (idM_bnd w j n hj (by omega))]
      exact this w (Nat.le_refl _)
    rw [hc, dot_unit (i := j) w (fun _ _ => rfl) (fun a ha => hM i a hi ha), if_pos hj]
  have hx : ∀ a, a < w → p.2 a j < 256 := fun a ha => h.b2 a j ha hj
  have s1 : Sol w p0 (fun a => p.2 a j) (idM j) := by
    rw [sol_full h hx]
    intro a ha
    exact (u p.2 h.b2 a ha).symm
  rw [sol_full h' hx] at s1
  rw [s1 i hi, u q.2 h'.b2 i hi]
theorem both_inv {w : Nat} {M0 : Mx} (h : bnd w M0) : resInv w (runI w (M0, idM) w) = resInv w (runS w (M0, idM) w) := by
  obtain ⟨g1, g2⟩ := good_all (p0 := (M0, idM)) h (idM_bnd w)
  cases h1 : runI w (M0, idM) w with
  | none =>
    cases h2 : runS w (M0, idM) w with
    | none => rfl
    | some q => rw [h1] at g1; rw [h2] at g2; exact (no_both g2 g1).elim
  | some p =>
    cases h2 : runS w (M0, idM) w with
    | none => rw [h1] at g1; rw [h2] at g2; exact (no_both g1 g2).elim
    | some q =>
      rw [h1] at g1; rw [h2] at g2
      simp only [resInv, mb]
      rw [rowsM_congr fun i j hi hj => same_inv g1 g2 hi hj]
end Go.Ae.M2
namespace Go.Ae.M2
set_option linter.unusedSimpArgs false
set_option linter.unusedVariables false
theorem nat_of {ws : List Int} (h : ws.all elB = true) : ∃ an : List Nat, ws = castL an ∧ ∀ x ∈ an, x < 256 := by
  refine ⟨ws.map Int.toNat, ?_, fun x hx => ?_⟩
  · unfold castL
    rw [List.map_map]
    refine (List.map_id ws).symm.trans (List.map_congr_left fun x hx => ?_)
    have := List.all_eq_true.1 h x hx
    simp [elB, inB] at this
    simp; omega
  · rw [List.mem_map] at hx
    obtain ⟨y, hy, rfl⟩ := hx
    have := List.all_eq_true.1 h y hy
    simp [elB, inB] at this
    omega
theorem unfl_bnd {w : Nat} {an : List Nat} (h : ∀ x ∈ an, x < 256) : bnd w (unfl w an) := fun i j _ _ => getD_lt h _
theorem matB_in {h w : Int} {zs : List Int} (hb : matB h w zs = true) : inB h 1 8 = true ∧ inB w 1 8 = true ∧ (zs.length : Int) = h * w ∧ zs.all elB = true := by
  simp only [matB, Bool.and_eq_true, beq_iff_eq] at hb
  exact ⟨hb.1.1.1, hb.1.1.2, hb.1.2, hb.2⟩
def resM (a b : Int) (us : List Int) (e : Int) : Res := ⟨.tup [.agg [.int .i64 a, .int .i64 b, .sl 0 0 0 [] 0 us.length], .int .i64 e], [⟨0, 1, false, true, rowsZ us⟩], []⟩
def MI (h w : Int) (zs : List Int) (a b : Int) (us : List Int) (e : Int) : Prop :=
  (∀ k, call code (k + 8) 21 [.agg [.int .i64 h, .int .i64 w, .rd true (rowsZ zs)]] [] = some (resM a b us e)) ∧
  (∀ k, call code (k + 8) 28 [.agg [.int .i64 h, .int .i64 w, .rd true (rowsZ zs)]] [] = some (resM a b us e))
theorem matInv (h w : Int) (zs : List Int) (hz : zs.length ≤ 1048576) : ∃ a b us e, MI h w zs a b us e ∧ us.length ≤ 64 := by
  have o1 := fun k => matrixOk k h w zs hz
  have o2 := fun k => l03OK k h w zs hz
  have hnil : rowsZ [] = [] := rfl
  cases hb : matB h w zs
  · refine ⟨0, 0, [], 1, ⟨fun k => ?_, fun k => ?_⟩, by simp⟩
    · refine call_run rfl fn21 rfl ?_
      simp [F21, rcall39, o1, hb, resM, hnil]
    · refine call_run rfl fn28 rfl ?_
      simp [F28, rcall36, o2, hb, resM, hnil]
  obtain ⟨h1, h2, h3, h4⟩ := matB_in hb
  cases hne : h != w
  rotate_left
  · refine ⟨0, 0, [], 2, ⟨fun k => ?_, fun k => ?_⟩, by simp⟩
    · refine call_run rfl fn21 rfl ?_
      simp [F21, rcall39, o1, hb, hne, resM, hnil]
    · refine call_run rfl fn28 rfl ?_
      simp [F28, rcall36, o2, hb, hne, resM, hnil]
  have he : h = w := by simpa using hne
  subst he
  simp [inB] at h1
  obtain ⟨n, rfl⟩ : ∃ n : Nat, h = n := ⟨h.toNat, by omega⟩
  obtain ⟨an, rfl, ha⟩ := nat_of h4
  rw [castL_len] at h3
  have hlen : an.length = n * n := by exact_mod_cast h3
  have hn : 1 ≤ n ∧ n ≤ 8 := by omega
  have hM := unfl_bnd (w := n) ha
  have hr : rowsZ (castL an) = rowsM n (unfl n an) := by rw [rowsM, fl_unfl hlen]
  have i1 := fun k => inverted k n (unfl n an) hn hM
  have i2 := fun k => l03Inv k n (unfl n an) hn hM
  rw [both_inv hM] at i1
  rw [hr] at o1 o2
  have hl2 : ∀ M : Mx, (castL (fl n M)).length = n * n := fun M => by rw [castL_len, fl_len]
  have h64 : n * n ≤ 8 * 8 := Nat.mul_le_mul hn.2 hn.2
  unfold MI
  rw [hr]
  generalize runS n (unfl n an, idM) n = r at *
  cases r with
  | none =>
    simp only [resInv] at i1 i2
    refine ⟨0, 0, [], 3, ⟨fun k => ?_, fun k => ?_⟩, by simp⟩
    · refine call_run rfl fn21 rfl ?_
      simp [F21, rcall39, o1, hb, hne, rcall45, i1, resM, hnil]
    · refine call_run rfl fn28 rfl ?_
      simp [F28, rcall36, o2, hb, hne, rcall54, i2, resM, hnil]
  | some p =>
    simp only [resInv, mb] at i1 i2
    refine ⟨n, n, castL (fl n p.2), 0, ⟨fun k => ?_, fun k => ?_⟩, by rw [hl2]; exact h64⟩
    · refine call_run rfl fn21 rfl ?_
      rw [resM, hl2, show rowsZ (castL (fl n p.2)) = rowsM n p.2 from rfl]
      simp [F21, rcall39, o1, hb, hne, rcall45, i1]
    · refine call_run rfl fn28 rfl ?_
      rw [resM, hl2, show rowsZ (castL (fl n p.2)) = rowsM n p.2 from rfl]
      simp [F28, rcall36, o2, hb, hne, rcall54, i2]
end Go.Ae.M2
namespace Go.Ae.M2
set_option linter.unusedSimpArgs false
set_option linter.unusedVariables false
theorem rz (zs : List Int) : rowsZ zs = rws encI zs := rfl
theorem tkW {α : Type} {enc : α → List AV} {l : List α} {n : Nat} (h : l.length = n) : (rws enc l).take n = rws enc l := by subst h; exact rws_takeLen enc l
set_option maxRecDepth 100000 in
set_option maxHeartbeats 64000000 in
theorem law8 (n : Nat) (h w : Int) (zs : List Int) (b1 : zs.length ≤ 140737488351232) :
    call code (n + 11) 8 [.agg [.int .i64 h, .int .i64 w, .rd true (rws encI zs)]] [] = some ⟨.bool true, [], []⟩ := by
  refine call_run rfl fn8 rfl ?_
  have z1 := fun k => szMatrix k 1048576 h w zs (by omega) b1
  cases g1 : decide (szV 1048576 zs.length < 0)
  rotate_left
  · obtain ⟨_, e1⟩ := szV_neg g1 (by omega)
    rw [e1] at z1
    simp [F8, rcall14, z1]
  obtain ⟨a1, e1⟩ := szV_pos g1 (by omega)
  rw [e1] at z1 g1
  have a3 : (zs.length : Int) ≤ 1048576 := by omega
  obtain ⟨a, b, us, e, ⟨hi, hs⟩, hb⟩ := matInv h w zs (by omega)
  simp only [resM, rz] at hi hs
  have t1 := fun k => toMatrix k h w zs (by omega)
  have eg := fun k => eqMatrix k a b us (by omega)
  have x1 := fun k => eqMatrix k h w zs (by omega)
  have m1 := fun k lv E S hlv hg => markMatrix k lv E h w zs S 1 (by omega) hlv (by omega) hg
  have m3 := fun k lv E S hlv hg => markMatrix k lv E a b us S 1 (by omega) hlv (by omega) hg
  have hh := fun k => heldMatrix k a b us.length 1 (by omega) (by omega)
  have hp1 := fun (l : Heap) (S : Nat) (hh : l.set S (some ⟨0, 1, false, true, rws encI zs⟩) = l) => hpm_all (enc := encI) (sz := 1) (mk := mkI) (l := l) (S := S) (c := 1) (ws := zs) hh
  have hp3 := fun (l : Heap) (S : Nat) (hh : l.set S (some ⟨0, 1, false, true, rws encI us⟩) = l) => hpm_all (enc := encI) (sz := 1) (mk := mkI) (l := l) (S := S) (c := 1) (ws := us) hh
  have k1 := tkW (enc := encI) (l := zs) rfl
  have k3 := tkW (enc := encI) (l := us) rfl
  have k4 := fun c n => tkW (enc := encI) (marks_len mkI c n)
  have d1 : decide (1 + (zs.length : Int) < 0) = false := by simp <;> omega
  have d2 : decide (1 + (us.length : Int) < 0) = false := by simp <;> omega
  simp (maxSteps := 20000000) [F8, rcall14, z1, g1, rcall16, t1, rcall28, hs, rcall21, hi, rcall11, eg, x1, rcall12, m1, m3, rcall13, hh, hp1, hp3, k1, k3, k4, d1, d2]
theorem lawMatInv (avs : List AV) (h : PFitsAll [(true, [.int .i64, .int .i64, .sl 8 [.int .i64]])] avs) : ∃ n bs e, call code n 8 avs [] = some ⟨.bool true, bs, e⟩ := by
  obtain ⟨v0, r, rfl, h0, h⟩ := h.cons_inv
  obtain rfl := h.nil_inv
  obtain ⟨cs, rfl, f0⟩ := h0.agg_inv
  obtain ⟨_, _, rfl, c0, f1⟩ := f0.cons_inv
  obtain ⟨_, _, rfl, c1, f2⟩ := f1.cons_inv
  obtain ⟨_, _, rfl, c2, f3⟩ := f2.cons_inv
  obtain rfl := f3.nil_inv
  obtain ⟨a, rfl, _⟩ := c0.i64_inv
  obtain ⟨b, rfl, _⟩ := c1.i64_inv
  obtain ⟨xs, rfl, hl, hr⟩ := c2.sl_inv
  obtain ⟨zs, rfl, hz⟩ := fitInt64S hr
  rw [rws_len] at hl
  exact ⟨_, _, _, law8 0 a b zs (by omega)⟩
end Go.Ae.M2
namespace Go.Ae.M2
set_option linter.unusedSimpArgs false
set_option linter.unusedVariables false
def term (an bn : List Nat) (w1 w2 i j q : Nat) : Nat := gm (an.getD (i * w1 + q) 0) (bn.getD (q * w2 + j) 0)
def ddt (an bn : List Nat) (w1 w2 i j : Nat) : Nat → Nat
  | 0 => 0
  | n + 1 => ddt an bn w1 w2 i j n ^^^ term an bn w1 w2 i j n
def mz (an bn : List Nat) (w1 w2 i j : Nat) : List Int := ((List.range i).flatMap fun a => (List.range w2).map fun b => ((ddt an bn w1 w2 a b w1 : Nat) : Int)) ++ ((List.range j).map fun b => ((ddt an bn w1 w2 i b w1 : Nat) : Int))
theorem mz_len (an bn : List Nat) (w1 w2 i j : Nat) : (mz an bn w1 w2 i j).length = i * w2 + j := by
  simp [mz, List.length_flatMap, sum_const]
theorem mz_row (an bn : List Nat) (w1 w2 i : Nat) : mz an bn w1 w2 i w2 = mz an bn w1 w2 (i + 1) 0 := by
  simp [mz, List.range_succ]
theorem mz_one (an bn : List Nat) (w1 w2 i j : Nat) : rowsZ (mz an bn w1 w2 i j) ++ [[.int .i64 ((ddt an bn w1 w2 i j w1 : Nat) : Int)]] = rowsZ (mz an bn w1 w2 i (j + 1)) := by
  simp [mz, List.range_succ, rowsZ]
theorem ddt_lt {an bn : List Nat} (ha : ∀ x ∈ an, x < 256) (w1 w2 i j : Nat) : ∀ n, ddt an bn w1 w2 i j n < 256
  | 0 => by simp [ddt]
  | n + 1 => Nat.xor_lt_two_pow (n := 8) (ddt_lt ha w1 w2 i j n) (gm_lt (getD_lt ha _))
set_option maxRecDepth 100000 in
set_option maxHeartbeats 4000000 in
theorem implMulOk (n : Nat) (h1 w1 w2 : Nat) (an bn : List Nat) (hh1 : h1 ≤ 8) (hw1 : w1 ≤ 8) (hw2 : w2 ≤ 8) (ha : ∀ x ∈ an, x < 256) (hb : ∀ x ∈ bn, x < 256) (la : an.length = h1 * w1) (lb : bn.length = w1 * w2) (va : matB h1 w1 (castL an) = true) (vb : matB w1 w2 (castL bn) = true) (hza : h1 * w1 ≤ 1048576) (hzb : w1 * w2 ≤ 1048576) :
    call code (n + 7) 17 [.agg [.int .i64 h1, .int .i64 w1, .rd true (rowsZ (castL an))], .agg [.int .i64 w1, .int .i64 w2, .rd true (rowsZ (castL bn))]] [] =
      some ⟨.tup [.agg [.int .i64 h1, .int .i64 w2, .sl 0 0 0 [] 0 (mz an bn w1 w2 h1 0).length], .int .i64 0], [⟨0, 1, false, true, rowsZ (mz an bn w1 w2 h1 0)⟩], []⟩ := by
  refine call_run rfl fn17 rfl ?_
  have rla : (rowsZ (castL an)).length = h1 * w1 := by rw [rowsZ_len, castL_len, la]
  have rlb : (rowsZ (castL bn)).length = w1 * w2 := by rw [rowsZ_len, castL_len, lb]
  have hma := fun n => matrixOk n h1 w1 (castL an) (by rw [castL_len, la]; exact hza)
  have hmb := fun n => matrixOk n w1 w2 (castL bn) (by rw [castL_len, lb]; exact hzb)
  rw [va] at hma
  rw [vb] at hmb
  simp [F17, rcall39, hma, hmb]
  refine RunC_loop (fun i : Nat => ⟨[.undef, .undef, .ptr 0 0 0 [] 0 0, .ptr 0 256 0 [] 0 0, .ptr 0 512 0 [] 0 0, .undef, .ptr 0 328960 0 [] 0 0] ++ List.replicate 28 .undef ++ [.int .i64 h1, .int .i64 i] ++ List.replicate 36 .undef,
      [(0, some ⟨0, 3, true, false, [[.int .i64 h1, .int .i64 w1, .rd true (rowsZ (castL an))]]⟩), (256, some ⟨0, 3, true, false, [[.int .i64 w1, .int .i64 w2, .rd true (rowsZ (castL bn))]]⟩), (512, some ⟨0, 3, true, false, [[.int .i64 0, .int .i64 0, .sl 0 515 0 [] 0 0]]⟩), (515, some ⟨0, 1, false, true, []⟩), (328960, some ⟨0, 3, true, false, [[.int .i64 h1, .int .i64 w2, .sl 0 329219 0 [] 0 (mz an bn w1 w2 i 0).length]]⟩), (328963, some ⟨0, 1, false, true, []⟩), (329219, some ⟨0, 1, false, true, rowsZ (mz an bn w1 w2 i 0)⟩)], []⟩)
    (fun i => i ≤ h1) (fun i => h1 - i) 0 (Nat.zero_le _) (by simp; omega) (by simp [mz, rowsZ]) fun i hi _ => ?_
  by_cases hlt : i < h1
  · simp [hlt]
    refine RunC_loop (fun j : Nat => ⟨[.undef, .undef, .ptr 0 0 0 [] 0 0, .ptr 0 256 0 [] 0 0, .ptr 0 512 0 [] 0 0, .undef, .ptr 0 328960 0 [] 0 0, .int .i64 i] ++ List.replicate 27 .undef ++ [.int .i64 h1, .int .i64 i, .undef, .undef, .undef, .int .i64 w2, .int .i64 j] ++ List.replicate 31 .undef,
      [(0, some ⟨0, 3, true, false, [[.int .i64 h1, .int .i64 w1, .rd true (rowsZ (castL an))]]⟩), (256, some ⟨0, 3, true, false, [[.int .i64 w1, .int .i64 w2, .rd true (rowsZ (castL bn))]]⟩), (512, some ⟨0, 3, true, false, [[.int .i64 0, .int .i64 0, .sl 0 515 0 [] 0 0]]⟩), (515, some ⟨0, 1, false, true, []⟩), (328960, some ⟨0, 3, true, false, [[.int .i64 h1, .int .i64 w2, .sl 0 329219 0 [] 0 (mz an bn w1 w2 i j).length]]⟩), (328963, some ⟨0, 1, false, true, []⟩), (329219, some ⟨0, 1, false, true, rowsZ (mz an bn w1 w2 i j)⟩)], []⟩)
      (fun j => j ≤ w2) (fun j => w2 - j) 0 (Nat.zero_le _) (by simp; omega) (by simp) fun j hj _ => ?_
    by_cases hlt2 : j < w2
    · have r1 : (i + 1) * w1 ≤ h1 * w1 := Nat.mul_le_mul_right _ hlt
      have r2 : h1 * w1 ≤ 8 * 8 := Nat.mul_le_mul hh1 hw1
      have hrow1 := fun n l => rowRd n l (h1 : Int) w1 i an (by omega) (by rw [la]; exact r1) (by rw [la]; omega) (by omega)
      have hpl : (rowsZ (castL (prt an (i * w1) ((i + 1) * w1)))).length = w1 := by
        rw [rowsZ_len, castL_len, prt_len (by rw [la]; exact r1), Nat.add_mul]; omega
      simp [hlt2, rcall40, hrow1, hpl]
      refine RunC_loop (fun q : Nat => ⟨[.undef, .undef, .ptr 0 0 0 [] 0 0, .ptr 0 256 0 [] 0 0, .ptr 0 512 0 [] 0 0, .undef, .ptr 0 328960 0 [] 0 0, .int .i64 i, .int .i64 j, .int .i64 (ddt an bn w1 w2 i j q : Nat)] ++ List.replicate 25 .undef ++ [.int .i64 h1, .int .i64 i, .undef, .undef, .undef, .int .i64 w2, .int .i64 j, .undef, .undef, .undef, .undef, .rd true (rowsZ (castL (prt an (i * w1) ((i + 1) * w1)))), .int .i64 w1, .int .i64 q] ++ List.replicate 24 .undef,
        [(0, some ⟨0, 3, true, false, [[.int .i64 h1, .int .i64 w1, .rd true (rowsZ (castL an))]]⟩), (256, some ⟨0, 3, true, false, [[.int .i64 w1, .int .i64 w2, .rd true (rowsZ (castL bn))]]⟩), (512, some ⟨0, 3, true, false, [[.int .i64 0, .int .i64 0, .sl 0 515 0 [] 0 0]]⟩), (515, some ⟨0, 1, false, true, []⟩), (328960, some ⟨0, 3, true, false, [[.int .i64 h1, .int .i64 w2, .sl 0 329219 0 [] 0 (mz an bn w1 w2 i j).length]]⟩), (328963, some ⟨0, 1, false, true, []⟩), (329219, some ⟨0, 1, false, true, rowsZ (mz an bn w1 w2 i j)⟩)], []⟩)
        (fun q => q ≤ w1) (fun q => w1 - q) 0 (Nat.zero_le _) (by simp; omega) (by simp [ddt]) fun q hq _ => ?_
      by_cases hlt3 : q < w1
      · have b1 : i * w1 ≤ 8 * 8 := Nat.mul_le_mul (by omega) hw1
        have b2 : q * w2 ≤ 8 * 8 := Nat.mul_le_mul (by omega) hw2
        have c0 : i * w1 + q < (i + 1) * w1 := by rw [Nat.add_mul]; omega
        have c2 : q * w2 + j < (q + 1) * w2 := by rw [Nat.add_mul]; omega
        have c3 : (q + 1) * w2 ≤ w1 * w2 := Nat.mul_le_mul_right _ hlt3
        have c4 : w1 * w2 ≤ 8 * 8 := Nat.mul_le_mul hw1 hw2
        have hrow2 := fun n l => rowRd n l (w1 : Int) w2 q bn (by omega) (by rw [lb]; exact c3) (by rw [lb]; omega) (by omega)
        have g1 : ∀ h, (rowsZ (castL (prt an (i * w1) ((i + 1) * w1))))[q]'h = [AV.int .i64 ((an.getD (i * w1 + q) 0 : Nat) : Int)] := fun h => by
          rw [← prt_get c0]
          exact rowsC_at (by rw [rowsZ_len, castL_len] at h; exact h) h
        have hpl2 : (rowsZ (castL (prt bn (q * w2) ((q + 1) * w2)))).length = w2 := by
          rw [rowsZ_len, castL_len, prt_len (by rw [lb]; exact c3), Nat.add_mul]; omega
        have g2 : ∀ h, (rowsZ (castL (prt bn (q * w2) ((q + 1) * w2))))[j]'h = [AV.int .i64 ((bn.getD (q * w2 + j) 0 : Nat) : Int)] := fun h => by
          rw [← prt_get c2]
          exact rowsC_at (by rw [rowsZ_len, castL_len] at h; exact h) h
        have u1 := getD_lt ha (i * w1 + q)
        have u2 := getD_lt hb (q * w2 + j)
        have hd0 := ddt_lt (bn := bn) ha w1 w2 i j q
        have ht := fun n => times n (an.getD (i * w1 + q) 0) (bn.getD (q * w2 + j) 0) u1 u2
        have hgl := gm_lt (b := bn.getD (q * w2 + j) 0) u1
        have hds : ddt an bn w1 w2 i j (q + 1) = ddt an bn w1 w2 i j q ^^^ gm (an.getD (i * w1 + q) 0) (bn.getD (q * w2 + j) 0) := rfl
        generalize gm (an.getD (i * w1 + q) 0) (bn.getD (q * w2 + j) 0) = pr at *
        generalize an.getD (i * w1 + q) 0 = av at *
        generalize bn.getD (q * w2 + j) 0 = bv at *
        generalize hd1 : ddt an bn w1 w2 i j (q + 1) = d1 at *
        generalize ddt an bn w1 w2 i j q = d0 at *
        have e5 : gXor .i64 (d0 : Int) (pr : Int) = ((d0 ^^^ pr : Nat) : Int) := gXor64 (by omega) (by omega)
        rw [← hds] at e5
        have hs := idx_succ hlt3 (by omega)
        generalize prt bn (q * w2) ((q + 1) * w2) = pb at *
        generalize prt an (i * w1) ((i + 1) * w1) = pa at *
        simp [hlt3, hlt2, e5, hs, hpl, hpl2, g1, g2, rcall40, hrow2, rcall41, ht]
        exact ⟨q + 1, by omega, by omega, by rw [hd1], by simp⟩
      · have : q = w1 := by omega
        subst this
        have hone := mz_one an bn q w2 i j
        have hl1 := mz_len an bn q w2 i j
        have hl2 := mz_len an bn q w2 i (j + 1)
        have hrl := rowsZ_len (mz an bn q w2 i j)
        have hs := idx_succ hlt2 (by omega)
        have b1 : i * w2 ≤ 8 * 8 := Nat.mul_le_mul (by omega) hw2
        have hl3 : (mz an bn q w2 i j).length + 1 = (mz an bn q w2 i (j + 1)).length := by omega
        have hll : (mz an bn q w2 i j).length ≤ 1000 := by omega
        generalize (mz an bn q w2 i j).length = L at *
        generalize ddt an bn q w2 i j q = dd at *
        simp [hs, source, evalW, hrl, hone]
        exact ⟨⟨by omega, by omega⟩, j + 1, by omega, by omega, by simp, hl3, rfl⟩
    · have : j = w2 := by omega
      subst this
      have hs := idx_succ hlt (by omega)
      have hrow := mz_row an bn w1 j i
      simp [hs]
      exact ⟨i + 1, by omega, by omega, by simp, by rw [hrow], by rw [hrow]⟩
  · have : i = h1 := by omega
    subst this
    simp
end Go.Ae.M2
namespace Go.Ae.M2
set_option linter.unusedSimpArgs false
set_option linter.unusedVariables false
theorem matUnit (k n : Nat) (hn : 1 ≤ n ∧ n < 9) : call code (k + 3) 22 [.int .i64 n] [] = some ⟨.tup [.agg [.int .i64 n, .int .i64 n, .sl 0 0 0 [] 0 (n * n)], .int .i64 0], [⟨0, 1, false, true, rowsZ (uz n n)⟩], []⟩ := by
  refine call_run rfl fn22 rfl ?_
  have hb : inB (n : Int) 1 8 = true := by simp [inB]; omega
  have hu := fun k => unit k n hn
  generalize n * n = nn at *
  simp [F22, rcall30, between, hb, rcall46, hu]
theorem equalZ (k : Nat) (ws : List Int) (hn : ws.length ≤ 1048576000) : call code (k + 1) 47 [.rd true (rowsZ ws), .rd true (rowsZ ws)] [] = some ⟨.bool true, [], []⟩ := by
  refine call_run rfl fn47 rfl ?_
  have hrl := rowsZ_len ws
  simp [F47, hrl]
  refine RunC_loop (fun i : Nat => ⟨tm 26 [(0, .rd true (rowsZ ws)), (1, .rd true (rowsZ ws)), (12, .int .i64 ws.length), (13, .int .i64 i)], [], []⟩)
    (fun i => i ≤ ws.length) (fun i => ws.length - i) 0 (Nat.zero_le _) (by simp; omega) (by simp [tm]) fun i hi _ => ?_
  by_cases hlt : i < ws.length
  · have hg : ∀ h, (rowsZ ws)[i]'h = [AV.int .i64 ws[i]] := fun h => rowsZ_at hlt h
    have hs := idx_succ' hlt (by omega)
    simp [tm, hlt, hrl, hg, hs]
    exact ⟨i + 1, by omega, by omega, by simp⟩
  · have : i = ws.length := by omega
    rw [this]
    simp [tm]
theorem sameMatrix (k : Nat) (h w : Int) (ws : List Int) (hn : ws.length ≤ 1048576) (hb : matB h w ws = true) :
    call code (k + 7) 23 [.agg [.int .i64 h, .int .i64 w, .rd true (rowsZ ws)], .agg [.int .i64 h, .int .i64 w, .rd true (rowsZ ws)]] [] = some ⟨.bool true, [], []⟩ := by
  refine call_run rfl fn23 rfl ?_
  have o1 := fun k => matrixOk k h w ws hn
  rw [hb] at o1
  have e1 := fun k => equalZ k ws (by omega)
  simp [F23, rcall39, o1, rcall47, e1]
end Go.Ae.M2
