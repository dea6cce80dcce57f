/- What is on hand: the check, the program's and the reference's. -/
import Derived.Test.YtnfghcflpnlbiaaC3M2
import Derived.Test.YtnfghcflpnlbiaaAeL6
namespace Go.Ae.C3
set_option linter.unusedSimpArgs false
set_option linter.unusedVariables false
def shAt (ws : List GShard) (i : Nat) : GShard := ws.getD i .zero
def hgood (a b q : Nat) (ws : List GShard) (i : Nat) : Bool := inB (shAt ws i).Pos 0 (((a + b : Nat) : Int) - 1) && (!(decide ((0 : Int) < (i : Int))) || !decide ((shAt ws i).Pos ≤ (shAt ws (i - 1)).Pos)) && !(((shAt ws i).Bytes.size : Int) != (q : Int))
def haveL (a b q : Nat) (ws : List GShard) : Bool := (List.range ws.length).all (hgood a b q ws)
def haveB (K M sz : Int) (ws : List GShard) : Bool := codeB K M && inB sz 0 64 && haveL K.toNat M.toNat (psz K.toNat sz.toNat) ws
theorem haveL_true {a b q : Nat} {ws : List GShard} (h : ∀ i, i < ws.length → hgood a b q ws i = true) : haveL a b q ws = true := by
  unfold haveL; rw [List.all_eq_true]; exact fun i hi => h i (List.mem_range.1 hi)
theorem haveL_false {a b q : Nat} {ws : List GShard} {i : Nat} (hi : i < ws.length) (h : hgood a b q ws i = false) : haveL a b q ws = false := by
  unfold haveL; rw [List.all_eq_false]; exact ⟨i, List.mem_range.2 hi, by simp [h]⟩
end Go.Ae.C3
namespace Go.Ae.C3
set_option linter.unusedSimpArgs false
set_option linter.unusedVariables false
/-- The cells of a square matrix. -/
def fl (w : Nat) (M : Nat → Nat → Nat) : List Nat := (List.range (w * w)).map fun x => M (x / w) (x % w)
theorem fl_len (w : Nat) (M : Nat → Nat → Nat) : (fl w M).length = w * w := by simp [fl]
theorem dm {w i j : Nat} (hj : j < w) : (i * w + j) / w = i ∧ (i * w + j) % w = j := by
  have hw : 0 < w := by omega
  constructor
  · rw [Nat.mul_comm, Nat.mul_add_div hw, Nat.div_eq_of_lt hj, Nat.add_zero]
  · rw [Nat.mul_comm, Nat.mul_add_mod, Nat.mod_eq_of_lt hj]
theorem ix_lt {w i j : Nat} (hi : i < w) (hj : j < w) : i * w + j < w * w := by
  have : (i + 1) * w ≤ w * w := Nat.mul_le_mul_right _ hi
  rw [Nat.add_mul] at this; omega
theorem fl_get {w : Nat} {M : Nat → Nat → Nat} {i j : Nat} (hi : i < w) (hj : j < w) : (fl w M).getD (i * w + j) 0 = M i j := by
  obtain ⟨h1, h2⟩ := dm (i := i) hj
  rw [List.getD_eq_getElem?_getD, List.getElem?_eq_getElem (by rw [fl_len]; exact ix_lt hi hj)]
  simp [fl, h1, h2]
theorem fl_congr {w : Nat} {M N : Nat → Nat → Nat} (h : ∀ i j, i < w → j < w → M i j = N i j) : fl w M = fl w N := by
  unfold fl
  apply List.map_congr_left
  intro x hx
  have hx' := List.mem_range.1 hx
  have hw : 0 < w := by
    rcases Nat.eq_zero_or_pos w with rfl | h
    · simp at hx'
    · exact h
  exact h _ _ (Nat.div_lt_of_lt_mul hx') (Nat.mod_lt _ hw)
theorem fl_set {w : Nat} {M : Nat → Nat → Nat} {i j v : Nat} (hi : i < w) (hj : j < w) : (fl w M).set (i * w + j) v = fl w (fun a b => if a = i ∧ b = j then v else M a b) := by
  obtain ⟨h1, h2⟩ := dm (i := i) hj
  have hlt := ix_lt hi hj
  apply List.ext_getElem
  · simp [fl_len]
  · intro x hx1 hx2
    rw [List.getElem_set]
    have hx : x < w * w := by simpa [fl_len] using hx2
    simp only [fl, List.getElem_map, List.getElem_range]
    by_cases hxx : i * w + j = x
    · rw [if_pos hxx, ← hxx, h1, h2, if_pos ⟨rfl, rfl⟩]
    · rw [if_neg hxx, if_neg]
      rintro ⟨e1, e2⟩
      apply hxx
      rw [← e1, ← e2, Nat.mul_comm]; exact Nat.div_add_mod x w
theorem fl_lt {w : Nat} {M : Nat → Nat → Nat} (h : ∀ i j, i < w → j < w → M i j < 256) : ∀ x ∈ fl w M, x < 256 := by
  intro x hx
  simp only [fl, List.mem_map, List.mem_range] at hx
  obtain ⟨y, hy, rfl⟩ := hx
  have hw : 0 < w := by
    rcases Nat.eq_zero_or_pos w with rfl | h
    · simp at hy
    · exact h
  exact h _ _ (Nat.div_lt_of_lt_mul hy) (Nat.mod_lt _ hw)
/-- The cells of a list as a matrix. -/
def unfl (w : Nat) (an : List Nat) : Nat → Nat → Nat := fun i j => an.getD (i * w + j) 0
theorem fl_unfl {w : Nat} {an : List Nat} (h : an.length = w * w) : fl w (unfl w an) = an := by
  apply List.ext_getElem
  · rw [fl_len, h]
  · intro x h1 h2
    simp only [fl, unfl, List.getElem_map, List.getElem_range]
    rw [Nat.mul_comm, Nat.div_add_mod, List.getD_eq_getElem?_getD, List.getElem?_eq_getElem h2]; rfl
def addRow (M : Nat → Nat → Nat) (t s c : Nat) : Nat → Nat → Nat := fun i j => if i = t then M t j ^^^ gm c (M s j) else M i j
def rowsM (w : Nat) (M : Nat → Nat → Nat) : List (List AV) := rowsZ (castL (fl w M))
@[simp] theorem rowsM_len (w : Nat) (M : Nat → Nat → Nat) : (rowsM w M).length = w * w := by rw [rowsM, rowsZ_len, castL_len, fl_len]
theorem rowsM_get {w : Nat} {M : Nat → Nat → Nat} {i j : Nat} (hi : i < w) (hj : j < w) (h : i * w + j < (rowsM w M).length) : (rowsM w M)[i * w + j]'h = [.int .i64 ((M i j : Nat) : Int)] := by
  have := rowsC_at (an := fl w M) (i := i * w + j) (by rw [fl_len]; exact ix_lt hi hj) h
  rw [fl_get hi hj] at this
  exact this
theorem rowsM_set {w : Nat} {M : Nat → Nat → Nat} {i j v : Nat} (hi : i < w) (hj : j < w) : (rowsM w M).set (i * w + j) [.int .i64 ((v : Nat) : Int)] = rowsM w (fun a b => if a = i ∧ b = j then v else M a b) := by
  unfold rowsM
  rw [rowsZ_set, ← fl_set hi hj]
  congr 1
  simp [castL, List.map_set]
theorem rowsM_congr {w : Nat} {M N : Nat → Nat → Nat} (h : ∀ i j, i < w → j < w → M i j = N i j) : rowsM w M = rowsM w N := by
  unfold rowsM; rw [fl_congr h]
def mb (w : Nat) (M : Nat → Nat → Nat) : Blk := ⟨0, 1, false, true, rowsM w M⟩
/-- The first q of a row told anew. -/
def part (M : Nat → Nat → Nat) (t c : Nat) (xs : Nat → Nat) (q : Nat) : Nat → Nat → Nat := fun i j => if i = t ∧ j < q then M t j ^^^ gm c (xs j) else M i j
theorem part_zero (M : Nat → Nat → Nat) (t c : Nat) (xs : Nat → Nat) : part M t c xs 0 = M := by funext i j; simp [part]
theorem part_next {w : Nat} {M : Nat → Nat → Nat} {t c q : Nat} {xs : Nat → Nat} (ht : t < w) (hq : q < w) :
    (rowsM w (part M t c xs q)).set (t * w + q) [.int .i64 ((M t q ^^^ gm c (xs q) : Nat) : Int)] = rowsM w (part M t c xs (q + 1)) := by
  rw [rowsM_set ht hq]
  apply rowsM_congr
  intro i j hi hj
  unfold part
  by_cases h1 : i = t
  · subst h1
    by_cases h2 : j = q
    · subst h2; simp
    · by_cases h3 : j < q
      · simp [h2, h3, show j < q + 1 by omega]
      · simp [h2, h3, show ¬ j < q + 1 by omega]
  · simp [h1]
end Go.Ae.C3
namespace Go.Ae.C3
set_option linter.unusedSimpArgs false
set_option linter.unusedVariables false
def pblk (w : Nat) (M : Nat → Nat → Nat) (t c : Nat) (xs : Nat → Nat) (q : Nat) : Blk := mb w (part M t c xs q)
theorem gx (a b : Nat) (ha : a < 256) (hb : b < 256) : gXor .i64 (a : Int) (b : Int) = ((a ^^^ b : Nat) : Int) := gXor64 (by omega) (by omega)
theorem hp_end {l : Heap} {S w : Nat} {M : Nat → Nat → Nat} {t c : Nat} {xs : Nat → Nat} (h : l.set S (some (mb w M)) = l) (ht : t < w) :
    hp l S (pblk w M t c xs) w = l.set S (some (mb w fun i j => if i = t then M t j ^^^ gm c (xs j) else M i j)) := by
  rw [hp_all (by rw [pblk, part_zero]; exact h)]
  congr 2
  unfold pblk mb
  congr 1
  apply rowsM_congr
  intro i j hi hj
  simp [part, hj]
end Go.Ae.C3
namespace Go.Ae.C3
set_option linter.unusedSimpArgs false
set_option linter.unusedVariables false
abbrev Mx := Nat → Nat → Nat
def idM : Mx := fun i j => if i = j then 1 else 0
def stp (i : Nat) (p : Mx × Mx) (k : Nat) : Mx × Mx := if k ≠ i ∧ p.1 k i ≠ 0 then (addRow p.1 k i (p.1 k i), addRow p.2 k i (p.1 k i)) else p
def elim (i : Nat) (p : Mx × Mx) : Nat → Mx × Mx
  | 0 => p
  | n + 1 => stp i (elim i p n) n
def fst (w : Nat) (A : Mx) (i : Nat) : Option Nat := (List.range w).find? fun k => decide (i ≤ k) && decide (A k i ≠ 0)
def pivI (w : Nat) (p : Mx × Mx) (i : Nat) : Option (Mx × Mx) := match fst w p.1 i with
  | none => none
  | some k => some (if k = i then p else (addRow p.1 i k 1, addRow p.2 i k 1))
def sclI (i : Nat) (p : Mx × Mx) : Mx × Mx := (addRow p.1 i i (inv (p.1 i i) ^^^ 1), addRow p.2 i i (inv (p.1 i i) ^^^ 1))
def stepI (w : Nat) (p : Mx × Mx) (i : Nat) : Option (Mx × Mx) := (pivI w p i).map fun q => elim i (sclI i q) w
def runI (w : Nat) (p : Mx × Mx) : Nat → Option (Mx × Mx)
  | 0 => some p
  | n + 1 => (runI w p n).bind fun q => stepI w q n
def bnd (w : Nat) (A : Mx) : Prop := ∀ i j, i < w → j < w → A i j < 256
theorem addRow_bnd {w t s c : Nat} {A : Mx} (h : bnd w A) (hs : s < w) (hc : c < 256) (ht : t < w) : bnd w (addRow A t s c) := by
  intro i j hi hj
  unfold addRow
  split
  · exact Nat.xor_lt_two_pow (n := 8) (h t j ht hj) (gm_lt hc)
  · exact h i j hi hj
theorem stp_bnd {w i k : Nat} {p : Mx × Mx} (h1 : bnd w p.1) (h2 : bnd w p.2) (hi : i < w) (hk : k < w) : bnd w (stp i p k).1 ∧ bnd w (stp i p k).2 := by
  unfold stp
  split
  · exact ⟨addRow_bnd h1 hi (h1 k i hk hi) hk, addRow_bnd h2 hi (h1 k i hk hi) hk⟩
  · exact ⟨h1, h2⟩
theorem elim_bnd {w i : Nat} {p : Mx × Mx} (h1 : bnd w p.1) (h2 : bnd w p.2) (hi : i < w) : ∀ n, n ≤ w → bnd w (elim i p n).1 ∧ bnd w (elim i p n).2
  | 0, _ => ⟨h1, h2⟩
  | n + 1, h => by
    obtain ⟨a, b⟩ := elim_bnd h1 h2 hi n (by omega)
    exact stp_bnd a b hi (by omega)
theorem idM_bnd (w : Nat) : bnd w idM := by
  intro i j _ _; unfold idM; split <;> decide
theorem uz_id : ∀ w, w < 9 → uz w w = castL (fl w idM) := by decide +kernel
theorem fst_some {w i k : Nat} {A : Mx} (hk : k < w) (hi : i ≤ k) (hne : A k i ≠ 0) (hz : ∀ j, i ≤ j → j < k → A j i = 0) : fst w A i = some k := by
  unfold fst
  rw [List.find?_eq_some_iff_getElem]
  refine ⟨by simp [hi, hne], k, by simpa using hk, by simp, fun j hj => ?_⟩
  simp
  by_cases hij : i ≤ j
  · exact .inr (hz j hij hj)
  · exact .inl (by omega)
theorem fst_none {w i : Nat} {A : Mx} (hz : ∀ j, i ≤ j → j < w → A j i = 0) : fst w A i = none := by
  unfold fst
  rw [List.find?_eq_none]
  intro j hj
  simp at hj ⊢
  exact fun hij => hz j hij hj
theorem gm_one : ∀ x, x < 256 → gm 1 x = x := by decide +kernel
theorem rowsM_row {w i : Nat} {A : Mx} (hi : i < w) : ((rowsM w A).drop (i * w)).take w = rowsZ (castL ((List.range w).map (A i))) := by
  have h2 : (i + 1) * w ≤ w * w := Nat.mul_le_mul_right _ hi
  rw [Nat.add_mul] at h2
  apply List.ext_getElem
  · rw [rowsZ_len, castL_len]; simp; omega
  · intro q h3 h4
    have hq : q < w := by simpa [rowsZ_len, castL_len] using h4
    simp only [List.getElem_take, List.getElem_drop]
    rw [rowsM_get hi hq]
    simp [rowsZ, castL]
theorem runI_none {w m : Nat} {p : Mx × Mx} (h : runI w p m = none) : ∀ n, m ≤ n → runI w p n = none
  | 0, hn => by rw [show m = 0 by omega] at h; exact h
  | n + 1, hn => by
    rcases Nat.eq_or_lt_of_le hn with rfl | h2
    · exact h
    · rw [runI, runI_none h n (by omega)]; rfl
def resInv (w : Nat) : Option (Mx × Mx) → Res
  | none => ⟨.tup [.agg [.int .i64 0, .int .i64 0, .sl 0 0 0 [] 0 0], .bool false], [⟨0, 1, false, true, []⟩], []⟩
  | some p => ⟨.tup [.agg [.int .i64 w, .int .i64 w, .sl 0 0 0 [] 0 (w * w)], .bool true], [mb w p.2], []⟩
def hpI (w : Nat) (M0 A O : Mx) : Heap := [(0, some ⟨0, 3, true, false, [[.int .i64 w, .int .i64 w, .rd true (rowsM w M0)]]⟩), (256, some ⟨0, 3, true, false, [[.int .i64 0, .int .i64 0, .sl 0 259 0 [] 0 0]]⟩), (259, some ⟨0, 1, false, true, []⟩),
  (67072, some ⟨0, 1, false, true, rowsM w A⟩), (67584, some ⟨0, 3, true, false, [[.int .i64 w, .int .i64 w, .sl 0 67072 0 [] 0 (w * w)]]⟩), (67587, some ⟨0, 1, false, true, []⟩),
  (131584, some ⟨0, 1, false, true, rowsM w O⟩), (131840, some ⟨0, 3, true, false, [[.int .i64 w, .int .i64 w, .sl 0 131584 0 [] 0 (w * w)]]⟩), (131843, some ⟨0, 1, false, true, []⟩)]
theorem rowM (k : Nat) (l : Heap) (S w i : Nat) (A : Mx) (hw : w ≤ 8) (hi : i < w) (hl : l.get S = some (some ⟨0, 1, false, true, rowsM w A⟩)) :
    call code (k + 1) 155 [.agg [.int .i64 w, .int .i64 w, .sl 1 S 0 [] 0 (w * w)], .int .i64 i] [l] = some ⟨.sl 1 S 0 [] (i * w) w, [], [l]⟩ := by
  have h64 : w * w ≤ 8 * 8 := Nat.mul_le_mul hw hw
  have h2 : (i + 1) * w ≤ w * w := Nat.mul_le_mul_right _ hi
  exact row k l S w w i (w * w) (castL (fl w A)) (by rw [castL_len, fl_len]) (by omega) (by rw [castL_len, fl_len]; exact h2) (by rw [castL_len, fl_len]; omega) hl (by omega)
end Go.Ae.C3
