/- Disks as arguments; the law FnExactWriteSector for all arguments. -/
import Derived.Test.YtbnfbihdcpdkkaaR3I
namespace Go.Ae.R3
set_option linter.unusedSimpArgs false
set_option linter.unusedVariables false
theorem rowsT_fit : ∀ {xs : List (List AV)}, (∀ r ∈ xs, FitsAll [.str] r) → ∃ ws, xs = rowsT ws ∧ ∀ s ∈ ws, s.size ≤ 140737488351232
  | [], _ => ⟨[], rfl, fun _ h => by cases h⟩
  | r :: xs, h => by
    obtain ⟨v, r', rfl, h1, h2⟩ := (h r List.mem_cons_self).cons_inv
    obtain rfl := h2.nil_inv
    obtain ⟨c, rfl, hc⟩ := h1.str_inv
    obtain ⟨ws, rfl, hw⟩ := rowsT_fit fun x hx => h x (List.mem_cons_of_mem _ hx)
    exact ⟨c :: ws, rfl, fun s hs => by rcases List.mem_cons.1 hs with rfl | hs; exact hc; exact hw s hs⟩
theorem rowsP_fit : ∀ {xs : List (List AV)}, (∀ r ∈ xs, FitsAll [.int .i64, .str] r) → ∃ ws, xs = rowsP ws ∧ ∀ s ∈ ws, s.2.size ≤ 140737488351232
  | [], _ => ⟨[], rfl, fun _ h => by cases h⟩
  | r :: xs, h => by
    obtain ⟨v, r', rfl, h1, h2⟩ := (h r List.mem_cons_self).cons_inv
    obtain ⟨u, r'', rfl, h3, h4⟩ := h2.cons_inv
    obtain rfl := h4.nil_inv
    obtain ⟨a, rfl, _⟩ := h1.i64_inv
    obtain ⟨c, rfl, hc⟩ := h3.str_inv
    obtain ⟨ws, rfl, hw⟩ := rowsP_fit fun x hx => h x (List.mem_cons_of_mem _ hx)
    exact ⟨(a, c) :: ws, rfl, fun s hs => by rcases List.mem_cons.1 hs with rfl | hs; exact hc; exact hw s hs⟩
theorem disk_fit {v : AV} (h : PFits (true, [.sl 16 [.str], .sl 24 [.int .i64, .str]]) v) : ∃ ss ps, v = dsk ss ps ∧ ss.length ≤ 140737488351232 ∧ (∀ s ∈ ss, s.size ≤ 140737488351232) ∧ ps.length ≤ 140737488351232 ∧ ∀ s ∈ ps, s.2.size ≤ 140737488351232 := by
  obtain ⟨cs, rfl, f0⟩ := h.agg_inv
  obtain ⟨_, _, rfl, c0, f1⟩ := f0.cons_inv
  obtain ⟨_, _, rfl, c1, f2⟩ := f1.cons_inv
  obtain rfl := f2.nil_inv
  obtain ⟨xs, rfl, hl, hr⟩ := c0.sl_inv
  obtain ⟨ws, rfl, hw⟩ := rowsT_fit hr
  obtain ⟨ys, rfl, kl, kr⟩ := c1.sl_inv
  obtain ⟨qs, rfl, hq⟩ := rowsP_fit kr
  rw [rowsT_len] at hl
  rw [rowsP_len] at kl
  exact ⟨ws, qs, rfl, by omega, hw, by omega, hq⟩
theorem lawWriteSector (avs : List AV) (h : PFitsAll [(true, [.sl 16 [.str], .sl 24 [.int .i64, .str]]), (false, [.int .i64]), (false, [.str])] avs) : ∃ n bs e, call code n 5 avs [] = some ⟨.bool true, bs, e⟩ := by
  obtain ⟨v0, r, rfl, h0, h⟩ := h.cons_inv
  obtain ⟨v1, r, rfl, h1, h⟩ := h.cons_inv
  obtain ⟨v2, r, rfl, h2, h⟩ := h.cons_inv
  obtain rfl := h.nil_inv
  obtain ⟨ss, ps, rfl, b1, b2, b3, b4⟩ := disk_fit h0
  obtain ⟨a, rfl, _⟩ := h1.one_inv.i64_inv
  obtain ⟨b, rfl, _⟩ := h2.one_inv.str_inv
  exact ⟨_, _, _, law5 0 ss ps a b b1 b2 b3 b4⟩
end Go.Ae.R3
