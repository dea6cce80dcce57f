/- Striped objects: cells and lengths. -/
import Derived.Test.YtnfghcflpnlbiaaC3M2
namespace Go.Ae.C3
set_option linter.unusedSimpArgs false
set_option linter.unusedVariables false
/-- The bytes of a column. -/
def tallN (a u n : Nat) : Nat := (n + a * u - 1) / (a * u) * u
theorem tallN_le {a u n : Nat} (ha : 1 ≤ a) (hu : 1 ≤ u) : tallN a u n ≤ n + u := by
  unfold tallN
  have hS : u ≤ a * u := Nat.le_mul_of_pos_left u ha
  generalize a * u = S at *
  by_cases h : n = 0
  · subst h
    have : (0 + S - 1) / S = 0 := Nat.div_eq_of_lt (by omega)
    rw [this]; omega
  · have h1 : (n + S - 1) / S = (n - 1) / S + 1 := by
      have : n + S - 1 = (n - 1) + S := by omega
      rw [this, Nat.add_div_right _ (by omega)]
    rw [h1, Nat.add_mul, Nat.one_mul]
    have h2 : (n - 1) / S * u ≤ (n - 1) / S * S := Nat.mul_le_mul_left _ hS
    have h3 := Nat.div_mul_le_self (n - 1) S
    omega
theorem mul_le (a u : Nat) (ha : a ≤ 4) (hu : u ≤ 8) : a * u ≤ 32 := Nat.le_trans (Nat.mul_le_mul ha hu) (by decide)
theorem mul_pos' {a u : Nat} (ha : 1 ≤ a) (hu : 1 ≤ u) : 1 ≤ a * u := Nat.mul_pos ha hu
theorem wdiv {x y : Nat} (h : x ≤ 1000000) : IntKind.wrap .i64 ((x : Int).tdiv (y : Int)) = ((x / y : Nat) : Int) ∧ IntKind.wrap .i64 ((x : Int) / (y : Int)) = ((x / y : Nat) : Int) := by
  have h1 : (x : Int).tdiv (y : Int) = ((x / y : Nat) : Int) := rfl
  have h2 : (x : Int) / (y : Int) = ((x / y : Nat) : Int) := rfl
  have hq : x / y ≤ x := Nat.div_le_self _ _
  rw [h1, h2]
  generalize x / y = q at *
  exact ⟨wrap64 ⟨by omega, by omega⟩, wrap64 ⟨by omega, by omega⟩⟩
theorem wmod (x y : Nat) : (x : Int).tmod (y : Int) = ((x % y : Nat) : Int) ∧ (x : Int) % (y : Int) = ((x % y : Nat) : Int) := ⟨rfl, rfl⟩
abbrev wAV (a b u : Nat) (n : Int) (R : List (List AV)) : AV := .agg [.int .i64 a, .int .i64 b, .int .i64 u, .int .i64 n, .rd true R]
theorem stripe (k : Nat) (a b u : Nat) (n : Int) (R : List (List AV)) (ha : 1 ≤ a ∧ a ≤ 4) (hu : 1 ≤ u ∧ u ≤ 8) : call code (k + 1) 115 [wAV a b u n R] [] = some ⟨.int .i64 (a * u : Nat), [], []⟩ := by
  refine call_run rfl fn115 rfl ?_
  have h := mul_le a u ha.2 hu.2
  have e : IntKind.wrap .i64 ((a : Int) * (u : Int)) = ((a * u : Nat) : Int) := by rw [← Int.natCast_mul, wrap64 ⟨by omega, by omega⟩]
  generalize a * u = S at *
  simp [F115, e]
theorem length (k : Nat) (a b u n : Nat) (R : List (List AV)) (ha : 1 ≤ a ∧ a ≤ 4) (hu : 1 ≤ u ∧ u ≤ 8) (hn : n ≤ 256) : call code (k + 2) 99 [wAV a b u n R] [] = some ⟨.int .i64 (tallN a u n : Nat), [], []⟩ := by
  refine call_run rfl fn99 rfl ?_
  have h := mul_le a u ha.2 hu.2
  have hp := mul_pos' ha.1 hu.1
  have s := fun k => stripe k a b u n R ha hu
  have t1 := tallN_le (n := n) ha.1 hu.1
  unfold tallN at t1 ⊢
  generalize a * u = S at *
  have e1 : IntKind.wrap .i64 ((n : Int) + (S : Int)) = ((n + S : Nat) : Int) := by rw [wrap64 ⟨by omega, by omega⟩]; omega
  have e2 : IntKind.wrap .i64 (((n + S : Nat) : Int) - 1) = ((n + S - 1 : Nat) : Int) := by rw [wrap64 ⟨by omega, by omega⟩]; omega
  have hm1 : n + S - 1 ≤ 300 := by omega
  generalize n + S = m at *
  generalize m - 1 = m1 at *
  have hq : m1 / S ≤ m1 := Nat.div_le_self _ _
  obtain ⟨e3, e3'⟩ := wdiv (x := m1) (y := S) (by omega)
  have hS0 : ¬ S = 0 := by omega
  generalize m1 / S = q at *
  have e4 : IntKind.wrap .i64 ((q : Int) * (u : Int)) = ((q * u : Nat) : Int) := by rw [← Int.natCast_mul, wrap64 ⟨by omega, by omega⟩]
  generalize q * u = r at *
  simp [F99, rcall115, s, e1, e2, e3, e3', e4, hS0]
theorem l05Tall (k : Nat) (a b u n : Nat) (ha : 1 ≤ a ∧ a ≤ 4) (hu : 1 ≤ u ∧ u ≤ 8) (hn : n ≤ 256) : call code (k + 1) 136 [.agg [.int .i64 a, .int .i64 b], .int .i64 u, .int .i64 n] [] = some ⟨.int .i64 (tallN a u n : Nat), [], []⟩ := by
  refine call_run rfl fn136 rfl ?_
  have h := mul_le a u ha.2 hu.2
  have hp := mul_pos' ha.1 hu.1
  have t1 := tallN_le (n := n) ha.1 hu.1
  have e : IntKind.wrap .i64 ((a : Int) * (u : Int)) = ((a * u : Nat) : Int) := by rw [← Int.natCast_mul, wrap64 ⟨by omega, by omega⟩]
  unfold tallN at t1 ⊢
  generalize a * u = S at *
  have e1 : IntKind.wrap .i64 ((n : Int) + (S : Int)) = ((n + S : Nat) : Int) := by rw [wrap64 ⟨by omega, by omega⟩]; omega
  have e2 : IntKind.wrap .i64 (((n + S : Nat) : Int) - 1) = ((n + S - 1 : Nat) : Int) := by rw [wrap64 ⟨by omega, by omega⟩]; omega
  have hm1 : n + S - 1 ≤ 300 := by omega
  generalize n + S = m at *
  generalize m - 1 = m1 at *
  have hq : m1 / S ≤ m1 := Nat.div_le_self _ _
  obtain ⟨e3, e3'⟩ := wdiv (x := m1) (y := S) (by omega)
  have hS0 : ¬ S = 0 := by omega
  generalize m1 / S = q at *
  have e4 : IntKind.wrap .i64 ((q : Int) * (u : Int)) = ((q * u : Nat) : Int) := by rw [← Int.natCast_mul, wrap64 ⟨by omega, by omega⟩]
  generalize q * u = r at *
  simp [F136, e, e1, e2, e3, e3', e4, hS0]
/-- The column of a byte, and its place in it. -/
def colN (a u p : Nat) : Nat := p % (a * u) / u
def offN (a u p : Nat) : Nat := p / (a * u) * u + p % u
/-- The byte of a place. -/
def posN (a u c o : Nat) : Nat := o / u * (a * u) + c * u + o % u
theorem colN_lt {a u : Nat} (ha : 1 ≤ a) (hu : 1 ≤ u) (p : Nat) : colN a u p < a := by
  unfold colN
  rw [Nat.div_lt_iff_lt_mul (by omega)]
  exact Nat.mod_lt _ (mul_pos' ha hu)
theorem pos_of_cell {a u : Nat} (ha : 1 ≤ a) (hu : 1 ≤ u) (p : Nat) : posN a u (colN a u p) (offN a u p) = p := by
  unfold posN colN offN
  have h1 : (p / (a * u) * u + p % u) / u = p / (a * u) := by
    rw [Nat.mul_comm, Nat.mul_add_div (by omega), Nat.div_eq_of_lt (Nat.mod_lt _ (by omega)), Nat.add_zero]
  have h2 : (p / (a * u) * u + p % u) % u = p % u := by
    rw [Nat.mul_comm, Nat.mul_add_mod, Nat.mod_mod]
  rw [h1, h2]
  have h3 : p % (a * u) % u = p % u := Nat.mod_mod_of_dvd _ (Nat.dvd_mul_left u a)
  have h4 := Nat.div_add_mod (p % (a * u)) u
  have h5 := Nat.div_add_mod p (a * u)
  rw [h3] at h4
  rw [Nat.mul_comm (p % (a * u) / u) u, Nat.mul_comm (p / (a * u)) (a * u)]
  omega
theorem cell_of_pos {a u c o : Nat} (hc : c < a) (hu : 1 ≤ u) : colN a u (posN a u c o) = c ∧ offN a u (posN a u c o) = o := by
  have hlt : o % u < u := Nat.mod_lt _ (by omega)
  have hr : c * u + o % u < a * u := by
    have : (c + 1) * u ≤ a * u := Nat.mul_le_mul_right _ hc
    rw [Nat.add_mul, Nat.one_mul] at this
    omega
  have e : posN a u c o = (a * u) * (o / u) + (c * u + o % u) := by unfold posN; rw [Nat.mul_comm (o / u)]; omega
  have h1 : posN a u c o % (a * u) = c * u + o % u := by rw [e, Nat.mul_add_mod, Nat.mod_eq_of_lt hr]
  have h2 : posN a u c o / (a * u) = o / u := by rw [e, Nat.mul_add_div (by omega), Nat.div_eq_of_lt hr, Nat.add_zero]
  have h3 : posN a u c o % u = o % u := by
    have : posN a u c o % (a * u) % u = posN a u c o % u := Nat.mod_mod_of_dvd _ (Nat.dvd_mul_left u a)
    rw [← this, h1, Nat.mul_comm, Nat.mul_add_mod, Nat.mod_mod]
  constructor
  · unfold colN
    rw [h1, Nat.mul_comm, Nat.mul_add_div (by omega), Nat.div_eq_of_lt hlt, Nat.add_zero]
  · unfold offN
    rw [h2, h3, Nat.mul_comm]
    exact Nat.div_add_mod o u
theorem offN_lt {a u n p : Nat} (ha : 1 ≤ a) (hu : 1 ≤ u) (hp : p < n) : offN a u p < tallN a u n := by
  unfold offN tallN
  have hS := mul_pos' ha hu
  generalize a * u = S at *
  have h1 : (n + S - 1) / S = (n - 1) / S + 1 := by
    have : n + S - 1 = (n - 1) + S := by omega
    rw [this, Nat.add_div_right _ (by omega)]
  have h2 : p / S ≤ (n - 1) / S := Nat.div_le_div_right (by omega)
  have h3 : p % u < u := Nat.mod_lt _ (by omega)
  rw [h1, Nat.add_mul, Nat.one_mul]
  have := Nat.mul_le_mul_right u h2
  omega
theorem cell (k : Nat) (a b u n p : Nat) (R : List (List AV)) (ha : 1 ≤ a ∧ a ≤ 4) (hu : 1 ≤ u ∧ u ≤ 8) (hp : p ≤ 1000) : call code (k + 2) 101 [wAV a b u n R, .int .i64 p] [] = some ⟨.tup [.int .i64 (colN a u p : Nat), .int .i64 (offN a u p : Nat)], [], []⟩ := by
  refine call_run rfl fn101 rfl ?_
  have h := mul_le a u ha.2 hu.2
  have hps := mul_pos' ha.1 hu.1
  have s := fun k => stripe k a b u n R ha hu
  have hS8 : u ≤ a * u := Nat.le_mul_of_pos_left u ha.1
  unfold colN offN
  generalize a * u = S at *
  have hS0 : ¬ S = 0 := by omega
  have hu0 : ¬ u = 0 := by omega
  obtain ⟨e1, e1'⟩ := wmod p S
  have hm : p % S ≤ p := Nat.mod_le _ _
  have hq : p / S ≤ p := Nat.div_le_self _ _
  have hqq : p / S * u ≤ p := by
    have := Nat.div_mul_le_self p S
    have := Nat.mul_le_mul_left (p / S) hS8
    omega
  have hm2 : p % u ≤ p := Nat.mod_le _ _
  obtain ⟨e5, e5'⟩ := wmod p u
  obtain ⟨e3, e3'⟩ := wdiv (x := p) (y := S) (by omega)
  generalize p % S = r at *
  have hr : r / u ≤ r := Nat.div_le_self _ _
  obtain ⟨e2, e2'⟩ := wdiv (x := r) (y := u) (by omega)
  generalize r / u = c at *
  generalize p / S = q at *
  generalize p % u = m at *
  have e4 : IntKind.wrap .i64 ((q : Int) * (u : Int)) = ((q * u : Nat) : Int) := by rw [← Int.natCast_mul, wrap64 ⟨by omega, by omega⟩]
  generalize q * u = d at *
  have e6 : IntKind.wrap .i64 ((d : Int) + (m : Int)) = ((d + m : Nat) : Int) := by rw [wrap64 ⟨by omega, by omega⟩]; omega
  generalize d + m = o at *
  simp [F101, rcall115, s, e1, e1', e2, e2', e3, e3', e4, e5, e5', e6, hS0, hu0]
end Go.Ae.C3
namespace Go.Ae.C3
set_option linter.unusedSimpArgs false
set_option linter.unusedVariables false
/-- A column of the body's. -/
def dWi (a u : Nat) (l : List UInt8) (c i : Nat) : List UInt8 := (List.range i).map fun o => l.getD (posN a u c o) 0
def dW (a u : Nat) (l : List UInt8) (c : Nat) : List UInt8 := dWi a u l c (tallN a u l.length)
def dWs (a u : Nat) (l : List UInt8) (i : Nat) : List (List UInt8) := (List.range i).map (dW a u l)
theorem dWi_len (a u : Nat) (l : List UInt8) (c i : Nat) : (dWi a u l c i).length = i := by simp [dWi]
theorem dWi_app (a u : Nat) (l : List UInt8) (c i : Nat) : dWi a u l c i ++ [l.getD (posN a u c i) 0] = dWi a u l c (i + 1) := by simp [dWi, List.range_succ]
theorem dW_len (a u : Nat) (l : List UInt8) (c : Nat) : (dW a u l c).length = tallN a u l.length := dWi_len ..
theorem dWs_len (a u : Nat) (l : List UInt8) (i : Nat) : (dWs a u l i).length = i := by simp [dWs]
theorem dWs_app (a u : Nat) (l : List UInt8) (i : Nat) : dWs a u l i ++ [dW a u l i] = dWs a u l (i + 1) := by simp [dWs, List.range_succ]
theorem dWs_all (a u : Nat) (l : List UInt8) (i : Nat) : ∀ x ∈ dWs a u l i, x.length = tallN a u l.length := fun x hx => by
  simp only [dWs, List.mem_map] at hx
  obtain ⟨c, _, rfl⟩ := hx
  exact dW_len ..
/-- The columns. -/
def wid (a b u : Nat) (l : List UInt8) : List (List UInt8) := pcs (gN a b) (a + b) a (dWs a u l a) (tallN a u l.length)
theorem wid_len (a b u : Nat) (l : List UInt8) : (wid a b u l).length = a + b := pcs_len ..
def resW (a b u n : Nat) (C : List (List UInt8)) : Res := ⟨.agg [.int .i64 a, .int .i64 b, .int .i64 u, .int .i64 n, .sl 0 0 0 [] 0 C.length], [⟨0, 1, false, true, rowsS C⟩], []⟩
end Go.Ae.C3
