/- Matrices by their entries; a multiple of a row added to another one. -/
import Derived.Test.YtnfghcflpnlbiaaC3M3
import Derived.Test.YtnfghcflpnlbiaaAeL6
namespace Go.Ae.C3
set_option linter.unusedSimpArgs false
set_option linter.unusedVariables false
/-- The cells of a square matrix. -/
def fl (w : Nat) (M : Nat → Nat → Nat) : List Nat := (List.range (w * w)).map fun x => M (x / w) (x % w)
theorem fl_len (w : Nat) (M : Nat → Nat → Nat) : (fl w M).length = w * w := by simp [fl]
theorem dm {w i j : Nat} (hj : j < w) : (i * w + j) / w = i ∧ (i * w + j) % w = j := by
  have hw : 0 < w := by omega
  constructor
  · rw [Nat.mul_comm, Nat.mul_add_div hw, Nat.div_eq_of_lt hj, Nat.add_zero]
  · rw [Nat.mul_comm, Nat.mul_add_mod, Nat.mod_eq_of_lt hj]
theorem ix_lt {w i j : Nat} (hi : i < w) (hj : j < w) : i * w + j < w * w := by
  have : (i + 1) * w ≤ w * w := Nat.mul_le_mul_right _ hi
  rw [Nat.add_mul] at this; omega
theorem fl_get {w : Nat} {M : Nat → Nat → Nat} {i j : Nat} (hi : i < w) (hj : j < w) : (fl w M).getD (i * w + j) 0 = M i j := by
  obtain ⟨h1, h2⟩ := dm (i := i) hj
  rw [List.getD_eq_getElem?_getD, List.getElem?_eq_getElem (by rw [fl_len]; exact ix_lt hi hj)]
  simp [fl, h1, h2]
theorem fl_congr {w : Nat} {M N : Nat → Nat → Nat} (h : ∀ i j, i < w → j < w → M i j = N i j) : fl w M = fl w N := by
  unfold fl
  apply List.map_congr_left
  intro x hx
  have hx' := List.mem_range.1 hx
  have hw : 0 < w := by
    rcases Nat.eq_zero_or_pos w with rfl | h
    · simp at hx'
    · exact h
  exact h _ _ (Nat.div_lt_of_lt_mul hx') (Nat.mod_lt _ hw)
theorem fl_set {w : Nat} {M : Nat → Nat → Nat} {i j v : Nat} (hi : i < w) (hj : j < w) : (fl w M).set (i * w + j) v = fl w (fun a b => if a = i ∧ b = j then v else M a b) := by
  obtain ⟨h1, h2⟩ := dm (i := i) hj
  have hlt := ix_lt hi hj
  apply List.ext_getElem
  · simp [fl_len]
  · intro x hx1 hx2
    rw [List.getElem_set]
    have hx : x < w * w := by simpa [fl_len] using hx2
    simp only [fl, List.getElem_map, List.getElem_range]
    by_cases hxx : i * w + j = x
    · rw [if_pos hxx, ← hxx, h1, h2, if_pos ⟨rfl, rfl⟩]
    · rw [if_neg hxx, if_neg]
      rintro ⟨e1, e2⟩
      apply hxx
      rw [← e1, ← e2, Nat.mul_comm]; exact Nat.div_add_mod x w
theorem fl_lt {w : Nat} {M : Nat → Nat → Nat} (h : ∀ i j, i < w → j < w → M i j < 256) : ∀ x ∈ fl w M, x < 256 := by
  intro x hx
  simp only [fl, List.mem_map, List.mem_range] at hx
  obtain ⟨y, hy, rfl⟩ := hx
  have hw : 0 < w := by
    rcases Nat.eq_zero_or_pos w with rfl | h
    · simp at hy
    · exact h
  exact h _ _ (Nat.div_lt_of_lt_mul hy) (Nat.mod_lt _ hw)
/-- The cells of a list as a matrix. -/
def unfl (w : Nat) (an : List Nat) : Nat → Nat → Nat := fun i j => an.getD (i * w + j) 0
theorem fl_unfl {w : Nat} {an : List Nat} (h : an.length = w * w) : fl w (unfl w an) = an := by
  apply List.ext_getElem
  · rw [fl_len, h]
  · intro x h1 h2
    simp only [fl, unfl, List.getElem_map, List.getElem_range]
    rw [Nat.mul_comm, Nat.div_add_mod, List.getD_eq_getElem?_getD, List.getElem?_eq_getElem h2]; rfl
def addRow (M : Nat → Nat → Nat) (t s c : Nat) : Nat → Nat → Nat := fun i j => if i = t then M t j ^^^ gm c (M s j) else M i j
def rowsM (w : Nat) (M : Nat → Nat → Nat) : List (List AV) := rowsZ (castL (fl w M))
@[simp] theorem rowsM_len (w : Nat) (M : Nat → Nat → Nat) : (rowsM w M).length = w * w := by rw [rowsM, rowsZ_len, castL_len, fl_len]
theorem rowsM_get {w : Nat} {M : Nat → Nat → Nat} {i j : Nat} (hi : i < w) (hj : j < w) (h : i * w + j < (rowsM w M).length) : (rowsM w M)[i * w + j]'h = [.int .i64 ((M i j : Nat) : Int)] := by
  have := rowsC_at (an := fl w M) (i := i * w + j) (by rw [fl_len]; exact ix_lt hi hj) h
  rw [fl_get hi hj] at this
  exact this
theorem rowsM_set {w : Nat} {M : Nat → Nat → Nat} {i j v : Nat} (hi : i < w) (hj : j < w) : (rowsM w M).set (i * w + j) [.int .i64 ((v : Nat) : Int)] = rowsM w (fun a b => if a = i ∧ b = j then v else M a b) := by
  unfold rowsM
  rw [rowsZ_set, ← fl_set hi hj]
  congr 1
  simp [castL, List.map_set]
theorem rowsM_congr {w : Nat} {M N : Nat → Nat → Nat} (h : ∀ i j, i < w → j < w → M i j = N i j) : rowsM w M = rowsM w N := by
  unfold rowsM; rw [fl_congr h]
def mb (w : Nat) (M : Nat → Nat → Nat) : Blk := ⟨0, 1, false, true, rowsM w M⟩
/-- The first q of a row told anew. -/
def part (M : Nat → Nat → Nat) (t c : Nat) (xs : Nat → Nat) (q : Nat) : Nat → Nat → Nat := fun i j => if i = t ∧ j < q then M t j ^^^ gm c (xs j) else M i j
theorem part_zero (M : Nat → Nat → Nat) (t c : Nat) (xs : Nat → Nat) : part M t c xs 0 = M := by funext i j; simp [part]
theorem part_next {w : Nat} {M : Nat → Nat → Nat} {t c q : Nat} {xs : Nat → Nat} (ht : t < w) (hq : q < w) :
    (rowsM w (part M t c xs q)).set (t * w + q) [.int .i64 ((M t q ^^^ gm c (xs q) : Nat) : Int)] = rowsM w (part M t c xs (q + 1)) := by
  rw [rowsM_set ht hq]
  apply rowsM_congr
  intro i j hi hj
  unfold part
  by_cases h1 : i = t
  · subst h1
    by_cases h2 : j = q
    · subst h2; simp
    · by_cases h3 : j < q
      · simp [h2, h3, show j < q + 1 by omega]
      · simp [h2, h3, show ¬ j < q + 1 by omega]
  · simp [h1]
end Go.Ae.C3
namespace Go.Ae.C3
set_option linter.unusedSimpArgs false
set_option linter.unusedVariables false
def pblk (w : Nat) (M : Nat → Nat → Nat) (t c : Nat) (xs : Nat → Nat) (q : Nat) : Blk := mb w (part M t c xs q)
theorem gx (a b : Nat) (ha : a < 256) (hb : b < 256) : gXor .i64 (a : Int) (b : Int) = ((a ^^^ b : Nat) : Int) := gXor64 (by omega) (by omega)
theorem hp_end {l : Heap} {S w : Nat} {M : Nat → Nat → Nat} {t c : Nat} {xs : Nat → Nat} (h : l.set S (some (mb w M)) = l) (ht : t < w) :
    hp l S (pblk w M t c xs) w = l.set S (some (mb w fun i j => if i = t then M t j ^^^ gm c (xs j) else M i j)) := by
  rw [hp_all (by rw [pblk, part_zero]; exact h)]
  congr 2
  unfold pblk mb
  congr 1
  apply rowsM_congr
  intro i j hi hj
  simp [part, hj]
set_option maxHeartbeats 4000000 in
theorem addTo (k : Nat) (l : Heap) (S w t s c : Nat) (M : Nat → Nat → Nat) (hw : 1 ≤ w ∧ w ≤ 8) (ht : t < w) (hs : s < w) (hne : s ≠ t) (hc : c < 256) (hM : ∀ i j, i < w → j < w → M i j < 256) (hl : l.get S = some (some (mb w M))) :
    call code (k + 3) 156 [.sl 1 S 0 [] (t * w) w, .sl 1 S 0 [] (s * w) w, .int .i64 c] [l] = some ⟨.tup [], [], [hp l S (pblk w M t c (M s)) w]⟩ := by
  refine call_run rfl fn156 rfl ?_
  simp [F156, hl, mb]
  refine RunC_loop (fun q : Nat => ⟨tm 25 [(0, .sl 1 S 0 [] (t * w) w), (2, .int .i64 c), (8, .sl 1 S 0 [] (s * w) w), (9, .int .i64 w), (10, .int .i64 q)], [], [hp l S (pblk w M t c (M s)) q]⟩)
    (fun q => q ≤ w) (fun q => w - q) 0 (Nat.zero_le _) (by simp; omega) (by simp [tm, hp_zero]) fun q hq _ => ?_
  have hg : (hp l S (pblk w M t c (M s)) q).get S = some (some (pblk w M t c (M s) q)) := hp_get (by rw [pblk, part_zero]; exact hl) q
  simp only [pblk, mb] at hg
  by_cases hlt : q < w
  · have hi := idx_succ' hlt (by omega)
    have b1 := ix_lt hs hlt
    have b2 := ix_lt ht hlt
    have g1 : ∀ h, (rowsM w (part M t c (M s) q))[s * w + q]'h = [.int .i64 ((M s q : Nat) : Int)] := fun h => by
      rw [rowsM_get hs hlt h]; simp [part, hne]
    have g2 : ∀ h, (rowsM w (part M t c (M s) q))[t * w + q]'h = [.int .i64 ((M t q : Nat) : Int)] := fun h => by
      rw [rowsM_get ht hlt h]; simp [part]
    have m1 := hM s q hs hlt
    have m2 := hM t q ht hlt
    have ht1 := fun k => times k c (M s q) hc m1
    have hx := gx (M t q) (gm c (M s q)) m2 (gm_lt hc)
    have hset := part_next (M := M) (c := c) (xs := M s) ht hlt
    have hhs : (hp l S (pblk w M t c (M s)) q).set S (some ⟨0, 1, false, true, rowsM w (part M t c (M s) (q + 1))⟩) = hp l S (pblk w M t c (M s)) (q + 1) := hp_set q
    generalize M s q = u at *
    generalize M t q = v at *
    generalize gm c u = g at *
    generalize s * w = sq at *
    generalize t * w = tq at *
    generalize v ^^^ g = vg at *
    simp [tm, hlt, hg, b1, b2, g1, g2, hi, rcall158, ht1, hx, hset, hhs]
    exact ⟨q + 1, by omega, by omega, by simp⟩
  · have : q = w := by omega
    subst this
    simp [tm]
set_option maxHeartbeats 4000000 in
theorem addToC (k : Nat) (l : Heap) (S T w t c : Nat) (M : Nat → Nat → Nat) (xs : Nat → Nat) (hw : 1 ≤ w ∧ w ≤ 8) (ht : t < w) (hne : T ≠ S) (hc : c < 256) (hM : ∀ i j, i < w → j < w → M i j < 256) (hX : ∀ j, j < w → xs j < 256) (hl : l.get S = some (some (mb w M)))
    (hT : l.get T = some (some ⟨0, 1, false, true, rowsZ (castL ((List.range w).map xs))⟩)) :
    call code (k + 3) 156 [.sl 1 S 0 [] (t * w) w, .sl 1 T 0 [] 0 w, .int .i64 c] [l] = some ⟨.tup [], [], [hp l S (pblk w M t c xs) w]⟩ := by
  refine call_run rfl fn156 rfl ?_
  simp [F156, hl, hT, mb]
  refine RunC_loop (fun q : Nat => ⟨tm 25 [(0, .sl 1 S 0 [] (t * w) w), (2, .int .i64 c), (8, .sl 1 T 0 [] 0 w), (9, .int .i64 w), (10, .int .i64 q)], [], [hp l S (pblk w M t c xs) q]⟩)
    (fun q => q ≤ w) (fun q => w - q) 0 (Nat.zero_le _) (by simp; omega) (by simp [tm, hp_zero]) fun q hq _ => ?_
  have hg : (hp l S (pblk w M t c xs) q).get S = some (some (pblk w M t c xs q)) := hp_get (by rw [pblk, part_zero]; exact hl) q
  simp only [pblk, mb] at hg
  have hgT : (hp l S (pblk w M t c xs) q).get T = some (some ⟨0, 1, false, true, rowsZ (castL ((List.range w).map xs))⟩) := by rw [hp_ne hne]; exact hT
  have hrl : (rowsZ (castL ((List.range w).map xs))).length = w := by rw [rowsZ_len, castL_len]; simp
  by_cases hlt : q < w
  · have hi := idx_succ' hlt (by omega)
    have b2 := ix_lt ht hlt
    have g1 : ∀ h, (rowsZ (castL ((List.range w).map xs)))[q]'h = [.int .i64 ((xs q : Nat) : Int)] := fun h => by
      have := rowsC_at (an := (List.range w).map xs) (i := q) (by simpa using hlt) h
      rw [this, List.getD_eq_getElem?_getD, List.getElem?_eq_getElem (by simpa using hlt)]; simp
    have g2 : ∀ h, (rowsM w (part M t c xs q))[t * w + q]'h = [.int .i64 ((M t q : Nat) : Int)] := fun h => by
      rw [rowsM_get ht hlt h]; simp [part]
    have m1 := hX q hlt
    have m2 := hM t q ht hlt
    have ht1 := fun k => times k c (xs q) hc m1
    have hx := gx (M t q) (gm c (xs q)) m2 (gm_lt hc)
    have hset := part_next (M := M) (c := c) (xs := xs) ht hlt
    have hhs : (hp l S (pblk w M t c xs) q).set S (some ⟨0, 1, false, true, rowsM w (part M t c xs (q + 1))⟩) = hp l S (pblk w M t c xs) (q + 1) := hp_set q
    generalize xs q = u at *
    generalize M t q = v at *
    generalize gm c u = g at *
    generalize t * w = tq at *
    generalize v ^^^ g = vg at *
    simp [tm, hlt, hg, hgT, hrl, b2, g1, g2, hi, rcall158, ht1, hx, hset, hhs]
    exact ⟨q + 1, by omega, by omega, by simp⟩
  · have : q = w := by omega
    subst this
    simp [tm]
end Go.Ae.C3
