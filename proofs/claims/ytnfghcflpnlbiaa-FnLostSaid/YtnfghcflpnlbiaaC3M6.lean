/- What is on hand: the check, the program's and the reference's. -/
import Derived.Test.YtnfghcflpnlbiaaC3M2
import Derived.Test.YtnfghcflpnlbiaaAeL6
namespace Go.Ae.C3
set_option linter.unusedSimpArgs false
set_option linter.unusedVariables false
def shAt (ws : List GShard) (i : Nat) : GShard := ws.getD i .zero
def hgood (a b q : Nat) (ws : List GShard) (i : Nat) : Bool := inB (shAt ws i).Pos 0 (((a + b : Nat) : Int) - 1) && (!(decide ((0 : Int) < (i : Int))) || !decide ((shAt ws i).Pos ≤ (shAt ws (i - 1)).Pos)) && !(((shAt ws i).Bytes.size : Int) != (q : Int))
def haveL (a b q : Nat) (ws : List GShard) : Bool := (List.range ws.length).all (hgood a b q ws)
def haveB (K M sz : Int) (ws : List GShard) : Bool := codeB K M && inB sz 0 64 && haveL K.toNat M.toNat (psz K.toNat sz.toNat) ws
theorem haveL_true {a b q : Nat} {ws : List GShard} (h : ∀ i, i < ws.length → hgood a b q ws i = true) : haveL a b q ws = true := by
  unfold haveL; rw [List.all_eq_true]; exact fun i hi => h i (List.mem_range.1 hi)
theorem haveL_false {a b q : Nat} {ws : List GShard} {i : Nat} (hi : i < ws.length) (h : hgood a b q ws i = false) : haveL a b q ws = false := by
  unfold haveL; rw [List.all_eq_false]; exact ⟨i, List.mem_range.2 hi, by simp [h]⟩
end Go.Ae.C3
namespace Go.Ae.C3
set_option linter.unusedSimpArgs false
set_option linter.unusedVariables false
/-- The cells of a square matrix. -/
def fl (w : Nat) (M : Nat → Nat → Nat) : List Nat := (List.range (w * w)).map fun x => M (x / w) (x % w)
theorem fl_len (w : Nat) (M : Nat → Nat → Nat) : (fl w M).length = w * w := by simp [fl]
theorem dm {w i j : Nat} (hj : j < w) : (i * w + j) / w = i ∧ (i * w + j) % w = j := by
  have hw : 0 < w := by omega
  constructor
  · rw [Nat.mul_comm, Nat.mul_add_div hw, Nat.div_eq_of_lt hj, Nat.add_zero]
  · rw [Nat.mul_comm, Nat.mul_add_mod, Nat.mod_eq_of_lt hj]
theorem ix_lt {w i j : Nat} (hi : i < w) (hj : j < w) : i * w + j < w * w := by
  have : (i + 1) * w ≤ w * w := Nat.mul_le_mul_right _ hi
  rw [Nat.add_mul] at this; omega
theorem fl_get {w : Nat} {M : Nat → Nat → Nat} {i j : Nat} (hi : i < w) (hj : j < w) : (fl w M).getD (i * w + j) 0 = M i j := by
  obtain ⟨h1, h2⟩ := dm (i := i) hj
  rw [List.getD_eq_getElem?_getD, List.getElem?_eq_getElem (by rw [fl_len]; exact ix_lt hi hj)]
  simp [fl, h1, h2]
theorem fl_congr {w : Nat} {M N : Nat → Nat → Nat} (h : ∀ i j, i < w → j < w → M i j = N i j) : fl w M = fl w N := by
  unfold fl
  apply List.map_congr_left
  intro x hx
  have hx' := List.mem_range.1 hx
  have hw : 0 < w := by
    rcases Nat.eq_zero_or_pos w with rfl | h
    · simp at hx'
    · exact h
  exact h _ _ (Nat.div_lt_of_lt_mul hx') (Nat.mod_lt _ hw)
theorem fl_set {w : Nat} {M : Nat → Nat → Nat} {i j v : Nat} (hi : i < w) (hj : j < w) : (fl w M).set (i * w + j) v = fl w (fun a b => if a = i ∧ b = j then v else M a b) := by
  obtain ⟨h1, h2⟩ := dm (i := i) hj
  have hlt := ix_lt hi hj
  apply List.ext_getElem
  · simp [fl_len]
  · intro x hx1 hx2
    rw [List.getElem_set]
    have hx : x < w * w := by simpa [fl_len] using hx2
    simp only [fl, List.getElem_map, List.getElem_range]
    by_cases hxx : i * w + j = x
    · rw [if_pos hxx, ← hxx, h1, h2, if_pos ⟨rfl, rfl⟩]
    · rw [if_neg hxx, if_neg]
      rintro ⟨e1, e2⟩
      apply hxx
      rw [← e1, ← e2, Nat.mul_comm]; exact Nat.div_add_mod x w
theorem fl_lt {w : Nat} {M : Nat → Nat → Nat} (h : ∀ i j, i < w → j < w → M i j < 256) : ∀ x ∈ fl w M, x < 256 := by
  intro x hx
  simp only [fl, List.mem_map, List.mem_range] at hx
  obtain ⟨y, hy, rfl⟩ := hx
  have hw : 0 < w := by
    rcases Nat.eq_zero_or_pos w with rfl | h
    · simp at hy
    · exact h
  exact h _ _ (Nat.div_lt_of_lt_mul hy) (Nat.mod_lt _ hw)
/-- The cells of a list as a matrix. -/
def unfl (w : Nat) (an : List Nat) : Nat → Nat → Nat := fun i j => an.getD (i * w + j) 0
theorem fl_unfl {w : Nat} {an : List Nat} (h : an.length = w * w) : fl w (unfl w an) = an := by
  apply List.ext_getElem
  · rw [fl_len, h]
  · intro x h1 h2
    simp only [fl, unfl, List.getElem_map, List.getElem_range]
    rw [Nat.mul_comm, Nat.div_add_mod, List.getD_eq_getElem?_getD, List.getElem?_eq_getElem h2]; rfl
def addRow (M : Nat → Nat → Nat) (t s c : Nat) : Nat → Nat → Nat := fun i j => if i = t then M t j ^^^ gm c (M s j) else M i j
def rowsM (w : Nat) (M : Nat → Nat → Nat) : List (List AV) := rowsZ (castL (fl w M))
@[simp] theorem rowsM_len (w : Nat) (M : Nat → Nat → Nat) : (rowsM w M).length = w * w := by rw [rowsM, rowsZ_len, castL_len, fl_len]
theorem rowsM_get {w : Nat} {M : Nat → Nat → Nat} {i j : Nat} (hi : i < w) (hj : j < w) (h : i * w + j < (rowsM w M).length) : (rowsM w M)[i * w + j]'h = [.int .i64 ((M i j : Nat) : Int)] := by
  have := rowsC_at (an := fl w M) (i := i * w + j) (by rw [fl_len]; exact ix_lt hi hj) h
  rw [fl_get hi hj] at this
  exact this
theorem rowsM_set {w : Nat} {M : Nat → Nat → Nat} {i j v : Nat} (hi : i < w) (hj : j < w) : (rowsM w M).set (i * w + j) [.int .i64 ((v : Nat) : Int)] = rowsM w (fun a b => if a = i ∧ b = j then v else M a b) := by
  unfold rowsM
  rw [rowsZ_set, ← fl_set hi hj]
  congr 1
  simp [castL, List.map_set]
theorem rowsM_congr {w : Nat} {M N : Nat → Nat → Nat} (h : ∀ i j, i < w → j < w → M i j = N i j) : rowsM w M = rowsM w N := by
  unfold rowsM; rw [fl_congr h]
def mb (w : Nat) (M : Nat → Nat → Nat) : Blk := ⟨0, 1, false, true, rowsM w M⟩
/-- The first q of a row told anew. -/
def part (M : Nat → Nat → Nat) (t c : Nat) (xs : Nat → Nat) (q : Nat) : Nat → Nat → Nat := fun i j => if i = t ∧ j < q then M t j ^^^ gm c (xs j) else M i j
theorem part_zero (M : Nat → Nat → Nat) (t c : Nat) (xs : Nat → Nat) : part M t c xs 0 = M := by funext i j; simp [part]
theorem part_next {w : Nat} {M : Nat → Nat → Nat} {t c q : Nat} {xs : Nat → Nat} (ht : t < w) (hq : q < w) :
    (rowsM w (part M t c xs q)).set (t * w + q) [.int .i64 ((M t q ^^^ gm c (xs q) : Nat) : Int)] = rowsM w (part M t c xs (q + 1)) := by
  rw [rowsM_set ht hq]
  apply rowsM_congr
  intro i j hi hj
  unfold part
  by_cases h1 : i = t
  · subst h1
    by_cases h2 : j = q
    · subst h2; simp
    · by_cases h3 : j < q
      · simp [h2, h3, show j < q + 1 by omega]
      · simp [h2, h3, show ¬ j < q + 1 by omega]
  · simp [h1]
end Go.Ae.C3
namespace Go.Ae.C3
set_option linter.unusedSimpArgs false
set_option linter.unusedVariables false
def pblk (w : Nat) (M : Nat → Nat → Nat) (t c : Nat) (xs : Nat → Nat) (q : Nat) : Blk := mb w (part M t c xs q)
theorem gx (a b : Nat) (ha : a < 256) (hb : b < 256) : gXor .i64 (a : Int) (b : Int) = ((a ^^^ b : Nat) : Int) := gXor64 (by omega) (by omega)
theorem hp_end {l : Heap} {S w : Nat} {M : Nat → Nat → Nat} {t c : Nat} {xs : Nat → Nat} (h : l.set S (some (mb w M)) = l) (ht : t < w) :
    hp l S (pblk w M t c xs) w = l.set S (some (mb w fun i j => if i = t then M t j ^^^ gm c (xs j) else M i j)) := by
  rw [hp_all (by rw [pblk, part_zero]; exact h)]
  congr 2
  unfold pblk mb
  congr 1
  apply rowsM_congr
  intro i j hi hj
  simp [part, hj]
set_option maxHeartbeats 4000000 in
theorem addTo (k : Nat) (l : Heap) (S w t s c : Nat) (M : Nat → Nat → Nat) (hw : 1 ≤ w ∧ w ≤ 8) (ht : t < w) (hs : s < w) (hne : s ≠ t) (hc : c < 256) (hM : ∀ i j, i < w → j < w → M i j < 256) (hl : l.get S = some (some (mb w M))) :
    call code (k + 3) 156 [.sl 1 S 0 [] (t * w) w, .sl 1 S 0 [] (s * w) w, .int .i64 c] [l] = some ⟨.tup [], [], [hp l S (pblk w M t c (M s)) w]⟩ := by
  refine call_run rfl fn156 rfl ?_
  simp [F156, hl, mb]
  refine RunC_loop (fun q : Nat => ⟨tm 25 [(0, .sl 1 S 0 [] (t * w) w), (2, .int .i64 c), (8, .sl 1 S 0 [] (s * w) w), (9, .int .i64 w), (10, .int .i64 q)], [], [hp l S (pblk w M t c (M s)) q]⟩)
    (fun q => q ≤ w) (fun q => w - q) 0 (Nat.zero_le _) (by simp; omega) (by simp [tm, hp_zero]) fun q hq _ => ?_
  have hg : (hp l S (pblk w M t c (M s)) q).get S = some (some (pblk w M t c (M s) q)) := hp_get (by rw [pblk, part_zero]; exact hl) q
  simp only [pblk, mb] at hg
  by_cases hlt : q < w
  · have hi := idx_succ' hlt (by omega)
    have b1 := ix_lt hs hlt
    have b2 := ix_lt ht hlt
    have g1 : ∀ h, (rowsM w (part M t c (M s) q))[s * w + q]'h = [.int .i64 ((M s q : Nat) : Int)] := fun h => by
      rw [rowsM_get hs hlt h]; simp [part, hne]
    have g2 : ∀ h, (rowsM w (part M t c (M s) q))[t * w + q]'h = [.int .i64 ((M t q : Nat) : Int)] := fun h => by
      rw [rowsM_get ht hlt h]; simp [part]
    have m1 := hM s q hs hlt
    have m2 := hM t q ht hlt
    have ht1 := fun k => times k c (M s q) hc m1
    have hx := gx (M t q) (gm c (M s q)) m2 (gm_lt hc)
    have hset := part_next (M := M) (c := c) (xs := M s) ht hlt
    have hhs : (hp l S (pblk w M t c (M s)) q).set S (some ⟨0, 1, false, true, rowsM w (part M t c (M s) (q + 1))⟩) = hp l S (pblk w M t c (M s)) (q + 1) := hp_set q
    generalize M s q = u at *
    generalize M t q = v at *
    generalize gm c u = g at *
    generalize s * w = sq at *
    generalize t * w = tq at *
    generalize v ^^^ g = vg at *
    simp [tm, hlt, hg, b1, b2, g1, g2, hi, rcall158, ht1, hx, hset, hhs]
    exact ⟨q + 1, by omega, by omega, by simp⟩
  · have : q = w := by omega
    subst this
    simp [tm]
set_option maxHeartbeats 4000000 in
theorem addToC (k : Nat) (l : Heap) (S T w t c : Nat) (M : Nat → Nat → Nat) (xs : Nat → Nat) (hw : 1 ≤ w ∧ w ≤ 8) (ht : t < w) (hne : T ≠ S) (hc : c < 256) (hM : ∀ i j, i < w → j < w → M i j < 256) (hX : ∀ j, j < w → xs j < 256) (hl : l.get S = some (some (mb w M)))
    (hT : l.get T = some (some ⟨0, 1, false, true, rowsZ (castL ((List.range w).map xs))⟩)) :
    call code (k + 3) 156 [.sl 1 S 0 [] (t * w) w, .sl 1 T 0 [] 0 w, .int .i64 c] [l] = some ⟨.tup [], [], [hp l S (pblk w M t c xs) w]⟩ := by
  refine call_run rfl fn156 rfl ?_
  simp [F156, hl, hT, mb]
  refine RunC_loop (fun q : Nat => ⟨tm 25 [(0, .sl 1 S 0 [] (t * w) w), (2, .int .i64 c), (8, .sl 1 T 0 [] 0 w), (9, .int .i64 w), (10, .int .i64 q)], [], [hp l S (pblk w M t c xs) q]⟩)
    (fun q => q ≤ w) (fun q => w - q) 0 (Nat.zero_le _) (by simp; omega) (by simp [tm, hp_zero]) fun q hq _ => ?_
  have hg : (hp l S (pblk w M t c xs) q).get S = some (some (pblk w M t c xs q)) := hp_get (by rw [pblk, part_zero]; exact hl) q
  simp only [pblk, mb] at hg
  have hgT : (hp l S (pblk w M t c xs) q).get T = some (some ⟨0, 1, false, true, rowsZ (castL ((List.range w).map xs))⟩) := by rw [hp_ne hne]; exact hT
  have hrl : (rowsZ (castL ((List.range w).map xs))).length = w := by rw [rowsZ_len, castL_len]; simp
  by_cases hlt : q < w
  · have hi := idx_succ' hlt (by omega)
    have b2 := ix_lt ht hlt
    have g1 : ∀ h, (rowsZ (castL ((List.range w).map xs)))[q]'h = [.int .i64 ((xs q : Nat) : Int)] := fun h => by
      have := rowsC_at (an := (List.range w).map xs) (i := q) (by simpa using hlt) h
      rw [this, List.getD_eq_getElem?_getD, List.getElem?_eq_getElem (by simpa using hlt)]; simp
    have g2 : ∀ h, (rowsM w (part M t c xs q))[t * w + q]'h = [.int .i64 ((M t q : Nat) : Int)] := fun h => by
      rw [rowsM_get ht hlt h]; simp [part]
    have m1 := hX q hlt
    have m2 := hM t q ht hlt
    have ht1 := fun k => times k c (xs q) hc m1
    have hx := gx (M t q) (gm c (xs q)) m2 (gm_lt hc)
    have hset := part_next (M := M) (c := c) (xs := xs) ht hlt
    have hhs : (hp l S (pblk w M t c xs) q).set S (some ⟨0, 1, false, true, rowsM w (part M t c xs (q + 1))⟩) = hp l S (pblk w M t c xs) (q + 1) := hp_set q
    generalize xs q = u at *
    generalize M t q = v at *
    generalize gm c u = g at *
    generalize t * w = tq at *
    generalize v ^^^ g = vg at *
    simp [tm, hlt, hg, hgT, hrl, b2, g1, g2, hi, rcall158, ht1, hx, hset, hhs]
    exact ⟨q + 1, by omega, by omega, by simp⟩
  · have : q = w := by omega
    subst this
    simp [tm]
end Go.Ae.C3
namespace Go.Ae.C3
set_option linter.unusedSimpArgs false
set_option linter.unusedVariables false
abbrev Mx := Nat → Nat → Nat
def idM : Mx := fun i j => if i = j then 1 else 0
def stp (i : Nat) (p : Mx × Mx) (k : Nat) : Mx × Mx := if k ≠ i ∧ p.1 k i ≠ 0 then (addRow p.1 k i (p.1 k i), addRow p.2 k i (p.1 k i)) else p
def elim (i : Nat) (p : Mx × Mx) : Nat → Mx × Mx
  | 0 => p
  | n + 1 => stp i (elim i p n) n
def fst (w : Nat) (A : Mx) (i : Nat) : Option Nat := (List.range w).find? fun k => decide (i ≤ k) && decide (A k i ≠ 0)
def pivI (w : Nat) (p : Mx × Mx) (i : Nat) : Option (Mx × Mx) := match fst w p.1 i with
  | none => none
  | some k => some (if k = i then p else (addRow p.1 i k 1, addRow p.2 i k 1))
def sclI (i : Nat) (p : Mx × Mx) : Mx × Mx := (addRow p.1 i i (inv (p.1 i i) ^^^ 1), addRow p.2 i i (inv (p.1 i i) ^^^ 1))
def stepI (w : Nat) (p : Mx × Mx) (i : Nat) : Option (Mx × Mx) := (pivI w p i).map fun q => elim i (sclI i q) w
def runI (w : Nat) (p : Mx × Mx) : Nat → Option (Mx × Mx)
  | 0 => some p
  | n + 1 => (runI w p n).bind fun q => stepI w q n
def bnd (w : Nat) (A : Mx) : Prop := ∀ i j, i < w → j < w → A i j < 256
theorem addRow_bnd {w t s c : Nat} {A : Mx} (h : bnd w A) (hs : s < w) (hc : c < 256) (ht : t < w) : bnd w (addRow A t s c) := by
  intro i j hi hj
  unfold addRow
  split
  · exact Nat.xor_lt_two_pow (n := 8) (h t j ht hj) (gm_lt hc)
  · exact h i j hi hj
theorem stp_bnd {w i k : Nat} {p : Mx × Mx} (h1 : bnd w p.1) (h2 : bnd w p.2) (hi : i < w) (hk : k < w) : bnd w (stp i p k).1 ∧ bnd w (stp i p k).2 := by
  unfold stp
  split
  · exact ⟨addRow_bnd h1 hi (h1 k i hk hi) hk, addRow_bnd h2 hi (h1 k i hk hi) hk⟩
  · exact ⟨h1, h2⟩
theorem elim_bnd {w i : Nat} {p : Mx × Mx} (h1 : bnd w p.1) (h2 : bnd w p.2) (hi : i < w) : ∀ n, n ≤ w → bnd w (elim i p n).1 ∧ bnd w (elim i p n).2
  | 0, _ => ⟨h1, h2⟩
  | n + 1, h => by
    obtain ⟨a, b⟩ := elim_bnd h1 h2 hi n (by omega)
    exact stp_bnd a b hi (by omega)
theorem idM_bnd (w : Nat) : bnd w idM := by
  intro i j _ _; unfold idM; split <;> decide
theorem uz_id : ∀ w, w < 9 → uz w w = castL (fl w idM) := by decide +kernel
theorem fst_some {w i k : Nat} {A : Mx} (hk : k < w) (hi : i ≤ k) (hne : A k i ≠ 0) (hz : ∀ j, i ≤ j → j < k → A j i = 0) : fst w A i = some k := by
  unfold fst
  rw [List.find?_eq_some_iff_getElem]
  refine ⟨by simp [hi, hne], k, by simpa using hk, by simp, fun j hj => ?_⟩
  simp
  by_cases hij : i ≤ j
  · exact .inr (hz j hij hj)
  · exact .inl (by omega)
theorem fst_none {w i : Nat} {A : Mx} (hz : ∀ j, i ≤ j → j < w → A j i = 0) : fst w A i = none := by
  unfold fst
  rw [List.find?_eq_none]
  intro j hj
  simp at hj ⊢
  exact fun hij => hz j hij hj
theorem gm_one : ∀ x, x < 256 → gm 1 x = x := by decide +kernel
theorem rowsM_row {w i : Nat} {A : Mx} (hi : i < w) : ((rowsM w A).drop (i * w)).take w = rowsZ (castL ((List.range w).map (A i))) := by
  have h2 : (i + 1) * w ≤ w * w := Nat.mul_le_mul_right _ hi
  rw [Nat.add_mul] at h2
  apply List.ext_getElem
  · rw [rowsZ_len, castL_len]; simp; omega
  · intro q h3 h4
    have hq : q < w := by simpa [rowsZ_len, castL_len] using h4
    simp only [List.getElem_take, List.getElem_drop]
    rw [rowsM_get hi hq]
    simp [rowsZ, castL]
theorem runI_none {w m : Nat} {p : Mx × Mx} (h : runI w p m = none) : ∀ n, m ≤ n → runI w p n = none
  | 0, hn => by rw [show m = 0 by omega] at h; exact h
  | n + 1, hn => by
    rcases Nat.eq_or_lt_of_le hn with rfl | h2
    · exact h
    · rw [runI, runI_none h n (by omega)]; rfl
def resInv (w : Nat) : Option (Mx × Mx) → Res
  | none => ⟨.tup [.agg [.int .i64 0, .int .i64 0, .sl 0 0 0 [] 0 0], .bool false], [⟨0, 1, false, true, []⟩], []⟩
  | some p => ⟨.tup [.agg [.int .i64 w, .int .i64 w, .sl 0 0 0 [] 0 (w * w)], .bool true], [mb w p.2], []⟩
def hpI (w : Nat) (M0 A O : Mx) : Heap := [(0, some ⟨0, 3, true, false, [[.int .i64 w, .int .i64 w, .rd true (rowsM w M0)]]⟩), (256, some ⟨0, 3, true, false, [[.int .i64 0, .int .i64 0, .sl 0 259 0 [] 0 0]]⟩), (259, some ⟨0, 1, false, true, []⟩),
  (67072, some ⟨0, 1, false, true, rowsM w A⟩), (67584, some ⟨0, 3, true, false, [[.int .i64 w, .int .i64 w, .sl 0 67072 0 [] 0 (w * w)]]⟩), (67587, some ⟨0, 1, false, true, []⟩),
  (131584, some ⟨0, 1, false, true, rowsM w O⟩), (131840, some ⟨0, 3, true, false, [[.int .i64 w, .int .i64 w, .sl 0 131584 0 [] 0 (w * w)]]⟩), (131843, some ⟨0, 1, false, true, []⟩)]
theorem rowM (k : Nat) (l : Heap) (S w i : Nat) (A : Mx) (hw : w ≤ 8) (hi : i < w) (hl : l.get S = some (some ⟨0, 1, false, true, rowsM w A⟩)) :
    call code (k + 1) 155 [.agg [.int .i64 w, .int .i64 w, .sl 1 S 0 [] 0 (w * w)], .int .i64 i] [l] = some ⟨.sl 1 S 0 [] (i * w) w, [], [l]⟩ := by
  have h64 : w * w ≤ 8 * 8 := Nat.mul_le_mul hw hw
  have h2 : (i + 1) * w ≤ w * w := Nat.mul_le_mul_right _ hi
  exact row k l S w w i (w * w) (castL (fl w A)) (by rw [castL_len, fl_len]) (by omega) (by rw [castL_len, fl_len]; exact h2) (by rw [castL_len, fl_len]; omega) hl (by omega)
set_option maxHeartbeats 16000000 in
set_option maxRecDepth 100000 in
theorem inverted (k w : Nat) (M0 : Mx) (hw : 1 ≤ w ∧ w ≤ 8) (hM : bnd w M0) : call code (k + 6) 128 [.agg [.int .i64 w, .int .i64 w, .rd true (rowsM w M0)]] [] = some (resInv w (runI w (M0, idM) w)) := by
  refine call_run rfl fn128 rfl ?_
  have h64 : w * w ≤ 8 * 8 := Nat.mul_le_mul hw.2 hw.2
  have hcl := fun k => clone_ok (c := code) (f := 153) (enc := encI) (sz := 1) (bytes := 8) (zero := [.int .i64 0]) rfl rfl (fun _ => rfl) (by omega) rfl rfl (castL (fl w M0)) (by rw [castL_len, fl_len]; omega) (by rw [castL_len, fl_len]; omega) k
  have hu := fun k => unit k w ⟨hw.1, by omega⟩
  rw [uz_id w (by omega)] at hu
  have r1 : ∀ A : Mx, rws encI (castL (fl w A)) = rowsM w A := fun _ => rfl
  have r2 : ∀ A : Mx, rowsZ (castL (fl w A)) = rowsM w A := fun _ => rfl
  rw [r1, castL_len, fl_len] at hcl
  rw [r2] at hu
  simp [F128, rcall153, hcl, rcall154, hu]
  refine RunC_loop (fun q : Nat × Mx × Mx => ⟨tm 126 [(1, .ptr 0 0 0 [] 0 0), (2, .ptr 0 256 0 [] 0 0), (4, .ptr 0 67584 0 [] 0 0), (5, .ptr 0 131840 0 [] 0 0), (23, .int .i64 w), (24, .int .i64 q.1)], hpI w M0 q.2.1 q.2.2, []⟩)
    (fun q => q.1 ≤ w ∧ runI w (M0, idM) q.1 = some q.2 ∧ bnd w q.2.1 ∧ bnd w q.2.2) (fun q => w - q.1) (0, M0, idM) ⟨Nat.zero_le _, rfl, hM, idM_bnd w⟩ (by simp; omega) (by simp [tm, hpI]) fun q hq _ => ?_
  obtain ⟨i, A, O⟩ := q
  obtain ⟨hi, hrun, hA, hO⟩ := hq
  simp only at hi hrun hA hO
  by_cases hlt : i < w
  · have hs := idx_succ' hlt (by omega)
    simp [tm, hpI, hlt]
    refine RunC_loop (fun q : Nat × Mx × Mx => ⟨tm 126 [(1, .ptr 0 0 0 [] 0 0), (2, .ptr 0 256 0 [] 0 0), (4, .ptr 0 67584 0 [] 0 0), (5, .ptr 0 131840 0 [] 0 0), (6, .int .i64 i), (7, .int .i64 q.1), (23, .int .i64 w), (24, .int .i64 i)], hpI w M0 q.2.1 q.2.2, []⟩)
      (fun q => i ≤ q.1 ∧ q.1 ≤ w ∧ ((q.2 = (A, O) ∧ ∀ j, i ≤ j → j < q.1 → A j i = 0) ∨ (∃ kk, kk < w ∧ i < kk ∧ q.1 = kk + 1 ∧ A i i = 0 ∧ A kk i ≠ 0 ∧ (∀ j, i ≤ j → j < kk → A j i = 0) ∧ q.2 = (addRow A i kk 1, addRow O i kk 1)))) (fun q => w - q.1) (i, A, O) ⟨Nat.le_refl _, hi, .inl ⟨rfl, fun j h1 h2 => by omega⟩⟩ (by simp; omega) (by simp [tm, hpI]) fun q hq _ => ?_
    obtain ⟨kx, A1, O1⟩ := q
    obtain ⟨hik, hkw, hcase⟩ := hq
    simp only at hik hkw hcase
    have hA1 : bnd w A1 ∧ bnd w O1 := by
      rcases hcase with ⟨e, _⟩ | ⟨kk, c1, c2, _, _, _, _, e⟩
      · cases e; exact ⟨hA, hO⟩
      · cases e; exact ⟨addRow_bnd hA c1 (by decide) hlt, addRow_bnd hO c1 (by decide) hlt⟩
    obtain ⟨hA1, hO1⟩ := hA1
    have rA := fun k l hl => rowM k l 67072 w i A1 hw.2 hlt hl
    have rO := fun k l hl => rowM k l 131584 w i O1 hw.2 hlt hl
    have hgi : ∀ (M : Mx) h, (rowsM w M)[i * w + i]'h = [.int .i64 ((M i i : Nat) : Int)] := fun M h => rowsM_get hlt hlt h
    have hii := ix_lt hlt hlt
    by_cases hzero : A1 i i = 0
    · -- no pivot yet
      have hnf : (A1, O1) = (A, O) ∧ ∀ j, i ≤ j → j < kx → A j i = 0 := by
        rcases hcase with h | ⟨kk, c1, c2, c3, c4, c5, c6, e⟩
        · exact h
        · exfalso
          cases e
          simp only [addRow, if_true] at hzero
          rw [c4, gm_one _ (hA kk i c1 hlt)] at hzero
          simp at hzero
          exact c5 hzero
      obtain ⟨e, hzs⟩ := hnf
      cases e
      by_cases hkl : kx < w
      · have hsk := idx_succ' hkl (by omega)
        have rAk := fun k l hl => rowM k l 67072 w kx A hw.2 hkl hl
        have rOk := fun k l hl => rowM k l 131584 w kx O hw.2 hkl hl
        have hgk : ∀ (M : Mx) h, (rowsM w M)[kx * w + i]'h = [.int .i64 ((M kx i : Nat) : Int)] := fun M h => rowsM_get hkl hlt h
        have hki := ix_lt hkl hlt
        have hz0 : ∀ h, (rowsM w A)[i * w + i]'h = [.int .i64 0] := fun h => by rw [hgi A h, hzero]; rfl
        have hne' : ((kx : Int) == (w : Int)) = false := by simp; omega
        have hne2 : ¬ kx = w := by omega
        by_cases hkz : A kx i = 0
        · have hz1 : ∀ h, (rowsM w A)[kx * w + i]'h = [.int .i64 0] := fun h => by rw [hgk A h, hkz]; rfl
          generalize i * w = iw at *
          generalize kx * w = kw at *
          simp [tm, hpI, rcall155, rA, rAk, hii, hki, hz0, hz1, hsk, hne', hlt, hkl]
          exact ⟨kx + 1, A, O, ⟨by omega, by omega, .inl ⟨⟨rfl, rfl⟩, fun j h1 h2 => by rcases Nat.lt_succ_iff_lt_or_eq.1 h2 with h | rfl; exact hzs j h1 h; exact hkz⟩⟩, by omega, by simp, rfl, rfl⟩
        · have hki2 : i < kx := by
            rcases Nat.eq_or_lt_of_le hik with rfl | h
            · exact absurd hzero hkz
            · exact h
          have hnz : ((A kx i : Int) != 0) = true := by simp; omega
          have hnz2 : ¬ A kx i = 0 := hkz
          have ad1 := fun k l hl => addTo k l 67072 w i kx 1 A hw hlt hkl (by omega) (by decide) hA hl
          have ad2 := fun k l hl => addTo k l 131584 w i kx 1 O hw hlt hkl (by omega) (by decide) hO hl
          have he1 := fun l h => hp_end (l := l) (S := 67072) (w := w) (M := A) (t := i) (c := 1) (xs := A kx) h hlt
          have he2 := fun l h => hp_end (l := l) (S := 131584) (w := w) (M := O) (t := i) (c := 1) (xs := O kx) h hlt
          have one : ((1 : Nat) : Int) = 1 := rfl
          simp only [mb, one] at ad1 ad2
          simp only [mb] at he1 he2
          generalize i * w = iw at *
          generalize kx * w = kw at *
          simp [tm, hpI, rcall155, rA, rAk, rO, rOk, hii, hki, hz0, hgk, hnz, hnz2, hsk, hne', hlt, hkl, rcall156, ad1, he1, ad2, he2]
          exact ⟨kx + 1, addRow A i kx 1, addRow O i kx 1, ⟨by omega, by omega, .inr ⟨kx, hkl, hki2, rfl, hzero, hkz, hzs, rfl, rfl⟩⟩, by omega, by simp, rfl, rfl⟩
      · have : kx = w := by omega
        subst this
        have hz0 : ∀ h, (rowsM kx A)[i * kx + i]'h = [.int .i64 0] := fun h => by rw [hgi A h, hzero]; rfl
        have hnone : runI kx (M0, idM) (i + 1) = none := by
          rw [runI, hrun]
          simp only [Option.bind_some, stepI, pivI]
          rw [fst_none hzs]; rfl
        have hnone2 : runI kx (M0, idM) kx = none := runI_none hnone _ hlt
        rw [hnone2]
        generalize i * kx = iw at *
        simp [tm, hpI, rcall155, rA, hii, hz0, resInv, hlt]
    · -- the pivot is there
      have hpiv : pivI w (A, O) i = some (A1, O1) := by
        unfold pivI
        rcases hcase with ⟨e, hzs⟩ | ⟨kk, c1, c2, c3, c4, c5, c6, e⟩
        · cases e
          have : fst w A i = some i := fst_some hlt (Nat.le_refl i) hzero fun j h1 h2 => by omega
          rw [show (A, O).1 = A from rfl, this]; simp
        · cases e
          have : fst w A i = some kk := fst_some c1 (by omega) c5 c6
          rw [show (A, O).1 = A from rfl, this]
          simp [show ¬ kk = i by omega]
      have hbne : ((A1 i i : Int) == 0) = false := by simp; omega
      have hv := hA1 i i hlt hlt
      have hinv := fun k => inverse k (A1 i i) hv
      have hil := inv_lt hv
      have hxr : gXor .i64 ((inv (A1 i i) : Nat) : Int) 1 = ((inv (A1 i i) ^^^ 1 : Nat) : Int) := gXor64 (b := 1) (by omega) (by decide)
      have hc : inv (A1 i i) ^^^ 1 < 256 := Nat.xor_lt_two_pow (n := 8) hil (by decide)
      have ca := fun k => clone_ok (c := code) (f := 153) (enc := encI) (sz := 1) (bytes := 8) (zero := [.int .i64 0]) rfl rfl (fun _ => rfl) (by omega) rfl rfl (castL ((List.range w).map (A1 i))) (by rw [castL_len]; simp; omega) (by rw [castL_len]; simp; omega) k
      have co := fun k => clone_ok (c := code) (f := 153) (enc := encI) (sz := 1) (bytes := 8) (zero := [.int .i64 0]) rfl rfl (fun _ => rfl) (by omega) rfl rfl (castL ((List.range w).map (O1 i))) (by rw [castL_len]; simp; omega) (by rw [castL_len]; simp; omega) k
      have hln : ∀ f : Nat → Nat, (castL ((List.range w).map f)).length = w := fun f => by rw [castL_len]; simp
      rw [hln] at ca co
      have hra := rowsM_row (A := A1) hlt
      have hro := rowsM_row (A := O1) hlt
      have rr : ∀ l : List Int, rws encI l = rowsZ l := fun _ => rfl
      rw [rr] at ca co
      have ad1 := fun k l hne hl hT => addToC k l 67072 984576 w i (inv (A1 i i) ^^^ 1) A1 (A1 i) hw hlt hne hc hA1 (fun j hj => hA1 i j hlt hj) hl hT
      have ad2 := fun k l hne hl hT => addToC k l 131584 1050112 w i (inv (A1 i i) ^^^ 1) O1 (O1 i) hw hlt hne hc hO1 (fun j hj => hO1 i j hlt hj) hl hT
      have he1 : ∀ l : Heap, l.set 67072 (some (mb w A1)) = l → hp l 67072 (pblk w A1 i (inv (A1 i i) ^^^ 1) (A1 i)) w = l.set 67072 (some (mb w (addRow A1 i i (inv (A1 i i) ^^^ 1)))) := fun l h => hp_end h hlt
      have he2 : ∀ l : Heap, l.set 131584 (some (mb w O1)) = l → hp l 131584 (pblk w O1 i (inv (A1 i i) ^^^ 1) (O1 i)) w = l.set 131584 (some (mb w (addRow O1 i i (inv (A1 i i) ^^^ 1)))) := fun l h => hp_end h hlt
      simp only [mb] at ad1 ad2 he1 he2
      have hwi : i * w + w ≤ w * w := by
        have : (i + 1) * w ≤ w * w := Nat.mul_le_mul_right _ hlt
        rw [Nat.add_mul] at this; omega
      have hgi1 := hgi A1
      have hstep : runI w (M0, idM) (i + 1) = some (elim i (sclI i (A1, O1)) w) := by
        rw [runI, hrun]
        simp only [Option.bind_some, stepI]
        rw [hpiv]; rfl
      have hsc : sclI i (A1, O1) = (addRow A1 i i (inv (A1 i i) ^^^ 1), addRow O1 i i (inv (A1 i i) ^^^ 1)) := rfl
      have bA := addRow_bnd hA1 hlt hc hlt
      have bO := addRow_bnd hO1 hlt hc hlt
      generalize hcc : inv (A1 i i) ^^^ 1 = cc at *
      generalize inv (A1 i i) = iv at *
      generalize i * w = iw at *
      simp [tm, hpI, rcall155, rA, rO, hii, hgi1, hbne, hzero, hlt, hwi, rcall157, hinv, hxr, rcall153, hra, hro, ca, co, rcall156, ad1, he1, ad2, he2]
      rw [hsc] at hstep
      generalize addRow A1 i i cc = PA at *
      generalize addRow O1 i i cc = PO at *
      refine RunC_loop (fun q : Nat => ⟨tm 126 [(1, .ptr 0 0 0 [] 0 0), (2, .ptr 0 256 0 [] 0 0), (4, .ptr 0 67584 0 [] 0 0), (5, .ptr 0 131840 0 [] 0 0), (6, .int .i64 i), (23, .int .i64 w), (24, .int .i64 i), (90, .int .i64 w), (91, .int .i64 q)],
          hpI w M0 (elim i (PA, PO) q).1 (elim i (PA, PO) q).2 ++ [(984576, some ⟨0, 1, false, true, rowsZ (castL ((List.range w).map (A1 i)))⟩), (1050112, some ⟨0, 1, false, true, rowsZ (castL ((List.range w).map (O1 i)))⟩)], []⟩)
        (fun q => q ≤ w) (fun q => w - q) 0 (Nat.zero_le _) (by simp; omega) (by simp [tm, hpI, elim]) fun q hq _ => ?_
      obtain ⟨b1, b2⟩ := elim_bnd (w := w) (i := i) (p := (PA, PO)) bA bO hlt q hq
      have hnx : elim i (PA, PO) (q + 1) = stp i (elim i (PA, PO) q) q := rfl
      have hfin : q = w → runI w (M0, idM) (i + 1) = some (elim i (PA, PO) q) := fun h => by rw [h]; exact hstep
      generalize elim i (PA, PO) q = E at *
      obtain ⟨A2, O2⟩ := E
      simp only at b1 b2 hnx
      by_cases hqw : q < w
      · have hsq := idx_succ' hqw (by omega)
        have rAq := fun k l hl => rowM k l 67072 w q A2 hw.2 hqw hl
        have rAi := fun k l hl => rowM k l 67072 w i A2 hw.2 hlt hl
        have rOq := fun k l hl => rowM k l 131584 w q O2 hw.2 hqw hl
        have rOi := fun k l hl => rowM k l 131584 w i O2 hw.2 hlt hl
        have hgq : ∀ h, (rowsM w A2)[q * w + i]'h = [.int .i64 ((A2 q i : Nat) : Int)] := fun h => rowsM_get hqw hlt h
        have hqi := ix_lt hqw hlt
        by_cases hqe : q = i
        · subst hqe
          have hst : stp q (A2, O2) q = (A2, O2) := by simp [stp]
          rw [hst] at hnx
          generalize hiw : q * w = qw at *
          simp [tm, hpI, rcall155, rAq, hqw, hqi, hgq, hsq]
          exact ⟨q + 1, by omega, by omega, by simp, by rw [hnx], by rw [hnx]⟩
        · have hb1 : ((q : Int) != (i : Int)) = true := by simp; omega
          by_cases hz : A2 q i = 0
          · have hst : stp i (A2, O2) q = (A2, O2) := by simp [stp, hz]
            rw [hst] at hnx
            have hgz : ∀ h, (rowsM w A2)[q * w + i]'h = [.int .i64 0] := fun h => by rw [hgq h, hz]; rfl
            generalize q * w = qw at *
            simp [tm, hpI, rcall155, rAq, hqw, hlt, hqi, hgz, hsq, hb1, hqe]
            exact ⟨q + 1, by omega, by omega, by simp, by rw [hnx], by rw [hnx]⟩
          · have hst : stp i (A2, O2) q = (addRow A2 q i (A2 q i), addRow O2 q i (A2 q i)) := by simp [stp, hz, hqe]
            rw [hst] at hnx
            have hnz : ((A2 q i : Int) != 0) = true := by simp; omega
            have hv := b1 q i hqw hlt
            have ad3 := fun k l hl => addTo k l 67072 w q i (A2 q i) A2 hw hqw hlt (fun h => hqe h.symm) hv b1 hl
            have ad4 := fun k l hl => addTo k l 131584 w q i (A2 q i) O2 hw hqw hlt (fun h => hqe h.symm) hv b2 hl
            have he3 : ∀ l : Heap, l.set 67072 (some (mb w A2)) = l → hp l 67072 (pblk w A2 q (A2 q i) (A2 i)) w = l.set 67072 (some (mb w (addRow A2 q i (A2 q i)))) := fun l h => hp_end h hqw
            have he4 : ∀ l : Heap, l.set 131584 (some (mb w O2)) = l → hp l 131584 (pblk w O2 q (A2 q i) (O2 i)) w = l.set 131584 (some (mb w (addRow O2 q i (A2 q i)))) := fun l h => hp_end h hqw
            simp only [mb] at ad3 ad4 he3 he4
            generalize addRow A2 q i (A2 q i) = A3 at *
            generalize addRow O2 q i (A2 q i) = O3 at *
            generalize hvv : A2 q i = v at *
            generalize i * w = iw' at *
            generalize q * w = qw at *
            simp [tm, hpI, rcall155, rAq, rAi, rOq, rOi, hqw, hlt, hqi, hgq, hsq, hb1, hqe, hnz, hz, rcall156, ad3, he3, ad4, he4]
            exact ⟨q + 1, by omega, by omega, by simp, by rw [hnx], by rw [hnx]⟩
      · have hqq : q = w := by omega
        have hf := hfin hqq
        subst hqq
        simp [tm, hpI, hs]
        exact ⟨i + 1, A2, O2, ⟨by omega, hf, b1, b2⟩, by omega, by simp, rfl, rfl⟩
  · have : i = w := by omega
    subst this
    rw [hrun]
    simp [tm, hpI, resInv, mb]
end Go.Ae.C3
