/- l03Swap, l03Clear: the steps of the specification's inverse. -/
import Derived.Test.YtnfghcflpnlbiaaC3M6
namespace Go.Ae.C3
set_option linter.unusedSimpArgs false
set_option linter.unusedVariables false
def swp (M : Mx) (a b : Nat) : Mx := fun i j => if i = a then M b j else if i = b then M a j else M i j
def psw (M : Mx) (a b q : Nat) : Mx := fun i j => if j < q then swp M a b i j else M i j
def hswp (M : Mx) (a b q : Nat) : Mx := fun i j => if i = a ∧ j = q then M b q else psw M a b q i j
theorem psw_zero (M : Mx) (a b : Nat) : psw M a b 0 = M := by funext i j; simp [psw]
theorem psw_all {w : Nat} (M : Mx) (a b : Nat) : rowsM w (psw M a b w) = rowsM w (swp M a b) := rowsM_congr fun i j _ hj => by simp [psw, hj]
theorem psw_next {w : Nat} {M : Mx} {a b q : Nat} (ha : a < w) (hb : b < w) (hq : q < w) :
    ((rowsM w (psw M a b q)).set (a * w + q) [.int .i64 ((M b q : Nat) : Int)]).set (b * w + q) [.int .i64 ((M a q : Nat) : Int)] = rowsM w (psw M a b (q + 1)) := by
  rw [rowsM_set ha hq, rowsM_set hb hq]
  apply rowsM_congr
  intro i j hi hj
  unfold psw swp
  by_cases h2 : j = q
  · subst h2
    by_cases h1 : i = b
    · subst h1
      by_cases h3 : i = a
      · subst h3; simp
      · simp [h3]
    · by_cases h3 : i = a
      · subst h3; simp [h1]
      · simp [h1, h3]
  · by_cases h3 : j < q
    · simp [h2, h3, show j < q + 1 by omega]
    · simp [h2, h3, show ¬ j < q + 1 by omega]
end Go.Ae.C3
namespace Go.Ae.C3
set_option linter.unusedSimpArgs false
set_option linter.unusedVariables false
theorem set_set_ne (s t : Nat) (a b c : Option Blk) (h : s ≠ t) : ∀ l : Heap, ((l.set s a).set t b).set s c = (l.set s c).set t b
  | [] => by
    have h' : ¬ t = s := fun e => h e.symm
    by_cases h2 : t < s
    · simp [Heap.set, h, h', h2, show ¬ s < t by omega]
    · simp [Heap.set, h, h', h2]
  | (u, d) :: r => by
    have ih := set_set_ne s t a b c h r
    have h' : ¬ t = s := fun e => h e.symm
    rcases Nat.lt_trichotomy s t with h2 | h2 | h2
    · rcases Nat.lt_trichotomy s u with h1 | h1 | h1
      · simp [Heap.set, h, h', h1, h2, show ¬ t < s by omega, show ¬ s = u by omega]
      · subst h1; simp [Heap.set, h, h', h2, show ¬ t < s by omega]
      · rcases Nat.lt_trichotomy t u with h3 | h3 | h3
        · omega
        · omega
        · simp [Heap.set, show ¬ s = u by omega, show ¬ s < u by omega, show ¬ t = u by omega, show ¬ t < u by omega, ih]
    · exact absurd h2 h
    · rcases Nat.lt_trichotomy s u with h1 | h1 | h1
      · simp [Heap.set, h, h', h1, h2, show ¬ s < t by omega, show ¬ s = u by omega]
      · subst h1; simp [Heap.set, h, h', h2, show ¬ s < t by omega]
      · rcases Nat.lt_trichotomy t u with h3 | h3 | h3
        · simp [Heap.set, h, h', h3, show ¬ t = u by omega, show ¬ s = u by omega, show ¬ s < u by omega, show ¬ s < t by omega, set_set_same]
        · subst h3; simp [Heap.set, h, h', show ¬ s < t by omega, set_set_same]
        · simp [Heap.set, show ¬ s = u by omega, show ¬ s < u by omega, show ¬ t = u by omega, show ¬ t < u by omega, ih]
def h2 (l : Heap) (S T : Nat) (x y : Blk) : Heap := (l.set S (some x)).set T (some y)
theorem h2_s {l : Heap} {S T : Nat} {x y : Blk} (h : S ≠ T) : (h2 l S T x y).get S = some (some x) := by rw [h2, get_set, if_neg h, get_set, if_pos rfl]
theorem h2_t {l : Heap} {S T : Nat} {x y : Blk} : (h2 l S T x y).get T = some (some y) := by rw [h2, get_set, if_pos rfl]
theorem h2_setS {l : Heap} {S T : Nat} {x y z : Blk} (h : S ≠ T) : (h2 l S T x y).set S (some z) = h2 l S T z y := set_set_ne S T _ _ _ h l
theorem h2_setT {l : Heap} {S T : Nat} {x y z : Blk} : (h2 l S T x y).set T (some z) = h2 l S T x z := set_set_same T _ _ _
def sclRow (M : Mx) (t c : Nat) : Mx := fun i j => if i = t then gm c (M t j) else M i j
def psc (M : Mx) (t c q : Nat) : Mx := fun i j => if i = t ∧ j < q then gm c (M t j) else M i j
theorem psc_zero (M : Mx) (t c : Nat) : psc M t c 0 = M := by funext i j; simp [psc]
theorem psc_all {w : Nat} (M : Mx) (t c : Nat) : rowsM w (psc M t c w) = rowsM w (sclRow M t c) := rowsM_congr fun i j _ hj => by simp [psc, sclRow, hj]
theorem part_all {w : Nat} (M : Mx) (t s c : Nat) : rowsM w (part M t c (M s) w) = rowsM w (addRow M t s c) := rowsM_congr fun i j _ hj => by simp [part, addRow, hj]
theorem psc_next {w : Nat} {M : Mx} {t c q : Nat} (ht : t < w) (hq : q < w) :
    (rowsM w (psc M t c q)).set (t * w + q) [.int .i64 ((gm c (M t q) : Nat) : Int)] = rowsM w (psc M t c (q + 1)) := by
  rw [rowsM_set ht hq]
  apply rowsM_congr
  intro i j hi hj
  unfold psc
  by_cases h1 : i = t
  · subst h1
    by_cases h2 : j = q
    · subst h2; simp
    · by_cases h3 : j < q
      · simp [h2, h3, show j < q + 1 by omega]
      · simp [h2, h3, show ¬ j < q + 1 by omega]
  · simp [h1]
theorem sclRow_bnd {w t c : Nat} {A : Mx} (h : bnd w A) (hc : c < 256) : bnd w (sclRow A t c) := by
  intro i j hi hj
  unfold sclRow
  split
  · exact gm_lt hc
  · exact h i j hi hj
def scal (i : Nat) (p : Mx × Mx) : Mx × Mx := (sclRow p.1 i (inv (p.1 i i)), sclRow p.2 i (inv (p.1 i i)))
theorem mulw {a w : Nat} (ha : a < w) (hw : w ≤ 8) : IntKind.wrap .i64 ((a : Int) * (w : Int)) = ((a * w : Nat) : Int) := by
  have : a * w ≤ 8 * 8 := Nat.mul_le_mul (by omega) hw
  rw [show (a : Int) * (w : Int) = ((a * w : Nat) : Int) by simp, wrap64 ⟨by omega, by omega⟩]
theorem addw {a w q : Nat} (ha : a < w) (hw : w ≤ 8) (hq : q < w) : IntKind.wrap .i64 (((a * w : Nat) : Int) + (q : Int)) = ((a * w + q : Nat) : Int) := by
  have : a * w ≤ 8 * 8 := Nat.mul_le_mul (by omega) hw
  rw [wrap64 ⟨by omega, by omega⟩]; omega
end Go.Ae.C3
namespace Go.Ae.C3
set_option linter.unusedSimpArgs false
set_option linter.unusedVariables false
def pivS (w : Nat) (p : Mx × Mx) (i : Nat) : Option (Mx × Mx) := match fst w p.1 i with
  | none => none
  | some k => some (swp p.1 i k, swp p.2 i k)
def stepS (w : Nat) (p : Mx × Mx) (i : Nat) : Option (Mx × Mx) := (pivS w p i).map fun q => elim i (scal i q) w
def runS (w : Nat) (p : Mx × Mx) : Nat → Option (Mx × Mx)
  | 0 => some p
  | n + 1 => (runS w p n).bind fun q => stepS w q n
theorem runS_none {w m : Nat} {p : Mx × Mx} (h : runS w p m = none) : ∀ n, m ≤ n → runS w p n = none
  | 0, hn => by rw [show m = 0 by omega] at h; exact h
  | n + 1, hn => by
    rcases Nat.eq_or_lt_of_le hn with rfl | h2
    · exact h
    · rw [runS, runS_none h n (by omega)]; rfl
theorem swp_bnd {w a b : Nat} {A : Mx} (h : bnd w A) (ha : a < w) (hb : b < w) : bnd w (swp A a b) := by
  intro i j hi hj
  unfold swp
  split
  · exact h b j hb hj
  · split
    · exact h a j ha hj
    · exact h i j hi hj
def hpS (w : Nat) (M0 A O : Mx) : Heap := [(0, some ⟨0, 3, true, false, [[.int .i64 w, .int .i64 w, .rd true (rowsM w M0)]]⟩), (256, some ⟨0, 3, true, false, [[.int .i64 0, .int .i64 0, .sl 0 259 0 [] 0 0]]⟩), (259, some ⟨0, 1, false, true, []⟩),
  (131584, some ⟨0, 1, false, true, rowsM w A⟩), (196864, some ⟨0, 1, false, true, rowsM w O⟩), (197120, some ⟨0, 3, true, false, [[.int .i64 w, .int .i64 w, .sl 0 196864 0 [] 0 (w * w)]]⟩), (197123, some ⟨0, 1, false, true, []⟩)]
end Go.Ae.C3
