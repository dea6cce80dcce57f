/- Striped objects of a body, the program's. -/
import Derived.Test.YtnfghcflpnlbiaaC3M3
namespace Go.Ae.C3
set_option linter.unusedSimpArgs false
set_option linter.unusedVariables false
def encO (r : List UInt8) : List AV := [.own true (rws encB r)]
/-- The rows while they are made. -/
def z1 (a t i : Nat) : List (List UInt8) := List.replicate i (List.replicate t 0) ++ List.replicate (a - i) []
theorem z1_len {a t i : Nat} (h : i ≤ a) : (z1 a t i).length = a := by simp [z1]; omega
theorem z1_set {a t i : Nat} (h : i < a) : (z1 a t i).set i (List.replicate t 0) = z1 a t (i + 1) := by
  unfold z1
  have hl : (List.replicate i (List.replicate t (0 : UInt8))).length = i := by simp
  rw [List.set_append_right i _ (by omega), hl, Nat.sub_self]
  obtain ⟨m, hm⟩ : ∃ m, a - i = m + 1 := ⟨a - i - 1, by omega⟩
  rw [hm, show a - (i + 1) = m by omega, List.replicate_succ, List.set_cons_zero, List.replicate_succ']
  simp
theorem z1_get {a t i : Nat} (h : i < a) (h' : i < (z1 a t i).length) : (z1 a t i)[i] = [] := by
  have : (z1 a t i)[i]? = some [] := by
    unfold z1
    have hl : (List.replicate i (List.replicate t (0 : UInt8))).length = i := by simp
    rw [List.getElem?_append_right (by omega), hl, Nat.sub_self, List.getElem?_replicate, if_pos (by omega)]
  rw [List.getElem?_eq_getElem h'] at this
  exact Option.some.inj this
theorem encO_set {D : List (List UInt8)} {c : Nat} (x : List UInt8) : setCell (rws encO D) c 0 (.own true (rws encB x)) = rws encO (D.set c x) := by
  apply List.ext_getElem?
  intro j
  simp only [setCell, List.getElem?_modify, rws, List.getElem?_map, List.getElem?_set]
  by_cases h : c = j
  · subst h
    by_cases h2 : c < D.length
    · simp [h2, encO]; rfl
    · simp [h2]
  · simp [h]
theorem encO_cell {D : List (List UInt8)} {c : Nat} (h : c < D.length) : cellAt (rws encO D) c 0 = some (.own true (rws encB D[c])) := by
  simp [cellAt, rws, encO, h]
/-- The rows when p bytes are laid. -/
def dR (a u t p : Nat) (l : List UInt8) (c : Nat) : List UInt8 := (List.range t).map fun o => if posN a u c o < p then l.getD (posN a u c o) 0 else 0
def dP (a u t p : Nat) (l : List UInt8) : List (List UInt8) := (List.range a).map (dR a u t p l)
theorem dP_len (a u t p : Nat) (l : List UInt8) : (dP a u t p l).length = a := by simp [dP]
theorem dR_len (a u t p : Nat) (l : List UInt8) (c : Nat) : (dR a u t p l c).length = t := by simp [dR]
theorem dP_zero (a u t : Nat) (l : List UInt8) : z1 a t a = dP a u t 0 l := by
  unfold z1 dP
  rw [Nat.sub_self]
  apply List.ext_getElem
  · simp
  · intro i h1 h2
    simp [dR]
    apply List.ext_getElem
    · simp
    · intro j h3 h4; simp
theorem dP_all (a u : Nat) (l : List UInt8) : dP a u (tallN a u l.length) l.length l = dWs a u l a := by
  unfold dP dWs
  refine List.map_congr_left fun c _ => ?_
  unfold dR dW dWi
  refine List.map_congr_left fun o _ => ?_
  split
  · rfl
  · rename_i h
    simp [List.getD_eq_getElem?_getD, List.getElem?_eq_none (Nat.le_of_not_lt h)]
theorem dP_set {a u t p : Nat} {l : List UInt8} (ha : 1 ≤ a) (hu : 1 ≤ u) (hp : p < l.length) : (dP a u t p l).set (colN a u p) ((dR a u t p l (colN a u p)).set (offN a u p) l[p]) = dP a u t (p + 1) l := by
  have hc := colN_lt ha hu p
  apply List.ext_getElem
  · simp [dP]
  · intro c h1 h2
    have hca : c < a := by simpa [dP] using h2
    rw [List.getElem_set]
    have e2 : (dP a u t (p + 1) l)[c] = dR a u t (p + 1) l c := by simp [dP]
    have e1 : ∀ h, (dP a u t p l)[c]'h = dR a u t p l c := fun h => by simp [dP]
    rw [e2]
    split
    · rename_i h
      subst h
      apply List.ext_getElem
      · simp [dR]
      · intro o h3 h4
        rw [List.getElem_set]
        have e4 : (dR a u t (p + 1) l (colN a u p))[o] = if posN a u (colN a u p) o < p + 1 then l.getD (posN a u (colN a u p) o) 0 else 0 := by simp [dR]
        have e3 : ∀ h, (dR a u t p l (colN a u p))[o]'h = if posN a u (colN a u p) o < p then l.getD (posN a u (colN a u p) o) 0 else 0 := fun h => by simp [dR]
        rw [e4]
        split
        · rename_i h
          subst h
          rw [pos_of_cell ha hu, if_pos (by omega)]
          simp [hp]
        · rename_i h
          have hne : posN a u (colN a u p) o ≠ p := fun he => by
            have := (cell_of_pos (o := o) hc hu).2
            rw [he] at this; exact h this
          rw [e3]
          by_cases hlt : posN a u (colN a u p) o < p
          · rw [if_pos hlt, if_pos (by omega)]
          · rw [if_neg hlt, if_neg (by omega)]
    · rename_i h
      rw [e1]
      refine List.map_congr_left fun o _ => ?_
      have hne : posN a u c o ≠ p := fun he => by
        have := (cell_of_pos (o := o) hca hu).1
        rw [he] at this; exact h this
      by_cases hlt : posN a u c o < p
      · rw [if_pos hlt, if_pos (by omega)]
      · rw [if_neg hlt, if_neg (by omega)]
set_option maxHeartbeats 8000000 in
theorem wideOf (k : Nat) (a b u : Nat) (l : List UInt8) (ha : 1 ≤ a ∧ a ≤ 4) (hb : b ≤ 3) (hu : 1 ≤ u ∧ u ≤ 8) (hl : l.length ≤ 256) :
    call code (k + 7) 90 [.agg [.int .i64 a, .int .i64 b], .int .i64 u, .str (B l)] [] = some (resW a b u l.length (wid a b u l)) := by
  refine call_run rfl fn90 rfl ?_
  have h1 := fun k => length k a b u l.length [] ha hu hl
  have h2 := fun k p (hp : p ≤ 1000) => cell k a b u l.length p [] ha hu hp
  have t1 := tallN_le (n := l.length) ha.1 hu.1
  have hN : wid a b u l = pcs (gN a b) (a + b) a (dWs a u l a) (tallN a u l.length) := rfl
  have hen := fun k => encoded k a b (dWs a u l a) (tallN a u l.length) ha.1 (by omega) (dWs_len a u l a) (dWs_all a u l a) (by omega)
  rw [← hN] at hen
  clear hN
  have hwl := wid_len a b u l
  have hDall := dP_all a u l
  have hof := fun p (hp : p < l.length) => offN_lt (a := a) (u := u) (n := l.length) ha.1 hu.1 hp
  generalize wid a b u l = Wd at *
  generalize tallN a u l.length = tall at *
  generalize a + b = ab at *
  unfold wAV at h1 h2
  have hz0 : List.replicate a [AV.own true []] = rws encO (z1 a tall 0) := by simp [z1, rws, encO]
  have hzl : ∀ i, i ≤ a → (rws encO (z1 a tall i)).length = a := fun i hi => by rw [rws_len, z1_len hi]
  have hdl : ∀ p, (rws encO (dP a u tall p l)).length = a := fun p => by rw [rws_len, dP_len]
  simp [F90, zeroRow, storeM, evalW, hz0]
  refine ⟨⟨by omega, by omega⟩, ?_⟩
  refine RunC_loop (fun i : Nat => ⟨tm 74 [(2, .str (B l)), (3, .ptr 0 0 0 [] 0 0), (6, .ptr 0 256 0 [] 0 0), (7, .ptr 0 66816 0 [] 0 0), (8, .sl 0 131584 0 [] 0 a), (25, .int .i64 a), (26, .int .i64 i)],
      [(0, some ⟨0, 2, true, false, [[.int .i64 a, .int .i64 b]]⟩), (256, some ⟨0, 5, true, false, [[.int .i64 0, .int .i64 0, .int .i64 0, .int .i64 0, .sl 0 261 0 [] 0 0]]⟩), (261, some ⟨0, 1, false, true, []⟩), (66816, some ⟨0, 5, true, false, [[.int .i64 a, .int .i64 b, .int .i64 u, .int .i64 l.length, .sl 0 67077 0 [] 0 0]]⟩), (66821, some ⟨0, 1, false, true, []⟩), (67077, some ⟨0, 1, false, true, []⟩), (131584, some ⟨0, 1, false, false, rws encO (z1 a tall i)⟩)], []⟩)
    (fun i => i ≤ a) (fun i => a - i) 0 (Nat.zero_le _) (by simp; omega) (by simp [tm]) fun i hi _ => ?_
  by_cases hlt : i < a
  · have hs := idx_succ' hlt (by omega)
    have hg : ∀ h, (rws encO (z1 a tall i))[i]'h = [.own true []] := fun h => by
      rw [rws_get]
      rw [z1_get hlt]; rfl
    have hst : (rws encO (z1 a tall i)).set i [.own true (List.replicate tall [.int .u8 0])] = rws encO (z1 a tall (i + 1)) := by
      rw [← z1_set hlt, ← rws_set]
      simp [encO, rws_rep, encB]
    have hzi := hzl i (by omega)
    generalize hR' : rws encO (z1 a tall (i + 1)) = R' at *
    generalize rws encO (z1 a tall i) = R at *
    simp [tm, hlt, hs, rcall99, h1, zeroRow, storeM, hzi, hg, hst, fillOk, AV.own0, AV.ownF, moveCells, moveCell]
    exact ⟨by omega, i + 1, by omega, by omega, by simp, by rw [hR']⟩
  · have : i = a := by omega
    subst this
    rw [dP_zero i u tall l]
    have hdz := hdl 0
    simp [tm]
    refine RunC_loop (fun p : Nat => ⟨tm 74 [(2, .str (B l)), (3, .ptr 0 0 0 [] 0 0), (6, .ptr 0 256 0 [] 0 0), (7, .ptr 0 66816 0 [] 0 0), (8, .sl 0 131584 0 [] 0 i), (37, .int .i64 l.length), (38, .int .i64 p)],
        [(0, some ⟨0, 2, true, false, [[.int .i64 i, .int .i64 b]]⟩), (256, some ⟨0, 5, true, false, [[.int .i64 0, .int .i64 0, .int .i64 0, .int .i64 0, .sl 0 261 0 [] 0 0]]⟩), (261, some ⟨0, 1, false, true, []⟩), (66816, some ⟨0, 5, true, false, [[.int .i64 i, .int .i64 b, .int .i64 u, .int .i64 l.length, .sl 0 67077 0 [] 0 0]]⟩), (66821, some ⟨0, 1, false, true, []⟩), (67077, some ⟨0, 1, false, true, []⟩), (131584, some ⟨0, 1, false, false, rws encO (dP i u tall p l)⟩)], []⟩)
      (fun p => p ≤ l.length) (fun p => l.length - p) 0 (Nat.zero_le _) (by simp; omega) (by simp [tm]) fun p hp _ => ?_
    have hdp := hdl p
    by_cases hpl : p < l.length
    · have hs := idx_succ' hpl (by omega)
      have hc := fun k => h2 k p (by omega)
      have hcl := colN_lt ha.1 hu.1 p
      have hol := hof p hpl
      have hset := dP_set (t := tall) ha.1 hu.1 hpl
      have hcell : cellAt (rws encO (dP i u tall p l)) (colN i u p) 0 = some (.own true (rws encB (dR i u tall p l (colN i u p)))) := by
        rw [encO_cell (by rw [dP_len]; exact hcl)]; simp [dP]
      have hgr : ∀ h, (rws encO (dP i u tall p l))[colN i u p]'h = [.own true (rws encB (dR i u tall p l (colN i u p)))] := fun h => by rw [rws_get]; simp [dP, encO]
      have hrl := rws_len (enc := encB) (dR i u tall p l (colN i u p))
      rw [dR_len] at hrl
      have hsb := rws_set (enc := encB) (dR i u tall p l (colN i u p)) (offN i u p) l[p]
      have hsc := encO_set (D := dP i u tall p l) (c := colN i u p) ((dR i u tall p l (colN i u p)).set (offN i u p) l[p])
      rw [hset, ← hsb] at hsc
      have hgl : ∀ (j : Nat) (h : j < (rws encB (dR i u tall p l (colN i u p))).length), ((rws encB (dR i u tall p l (colN i u p)))[j]'h).length = 1 := fun j h => by rw [rws_get]; rfl
      have hgt : ∀ (j : Nat) (h : j < (rws encB (dR i u tall p l (colN i u p))).length), ((rws encB (dR i u tall p l (colN i u p)))[j]'h).tail = [] := fun j h => by rw [rws_get]; rfl
      clear hsb hset
      simp only [encB] at hsc
      generalize colN i u p = cc at *
      generalize offN i u p = oo at *
      generalize dR i u tall p l cc = rr at *
      generalize hR' : rws encO (dP i u tall (p + 1) l) = R' at *
      generalize rws encO (dP i u tall p l) = R at *
      have hB : ∀ h, (B l)[p]'h = l[p] := fun h => rfl
      unfold encB at *
      generalize (rws (fun b : UInt8 => [AV.int .u8 b.toNat]) rr) = RR at *
      simp [tm, hpl, hs, rcall101, hc, hdp, hcl, hgr, hcell, hrl, hol, hB, storeM, hgl, hgt, hsc]
      exact ⟨p + 1, by omega, by omega, by simp, by rw [hR']; exact hsc⟩
    · have : p = l.length := by omega
      subst this
      have hz : dP i u tall l.length l = dWs i u l i := hDall
      rw [hz] at hdp ⊢
      simp [tm, hdp]
      refine RunC_loop (fun j : Nat => ⟨tm 74 [(3, .ptr 0 0 0 [] 0 0), (6, .ptr 0 256 0 [] 0 0), (7, .ptr 0 66816 0 [] 0 0), (13, .sl 0 917504 0 [] 0 j), (57, .sl 0 131584 0 [] 0 i), (58, .int .i64 i), (59, .int .i64 j)],
          [(0, some ⟨0, 2, true, false, [[.int .i64 i, .int .i64 b]]⟩), (256, some ⟨0, 5, true, false, [[.int .i64 0, .int .i64 0, .int .i64 0, .int .i64 0, .sl 0 261 0 [] 0 0]]⟩), (261, some ⟨0, 1, false, true, []⟩), (66816, some ⟨0, 5, true, false, [[.int .i64 i, .int .i64 b, .int .i64 u, .int .i64 l.length, .sl 0 67077 0 [] 0 0]]⟩), (66821, some ⟨0, 1, false, true, []⟩), (67077, some ⟨0, 1, false, true, []⟩), (131584, some ⟨0, 1, false, false, rws encO (dWs i u l i)⟩), (917504, some ⟨0, 1, false, true, rowsS (dWs i u l j)⟩)], []⟩)
        (fun j => j ≤ i) (fun j => i - j) 0 (Nat.zero_le _) (by simp; omega) (by simp [tm, dWs, rowsS, rws]) fun j hj _ => ?_
      have hsl := rowsS_len (dWs i u l j)
      rw [dWs_len] at hsl
      by_cases hjl : j < i
      · have hs := idx_succ' hjl (by omega)
        have hdw : ∀ h, (dWs i u l i)[j]'h = dW i u l j := fun h => by simp [dWs]
        have hcell : cellAt (rws encO (dWs i u l i)) j 0 = some (.own true (rws encB (dW i u l j))) := by
          rw [encO_cell (by rw [dWs_len]; exact hjl), hdw]
        have hgr : ∀ h, (rws encO (dWs i u l i))[j]'h = [.own true (rws encB (dW i u l j))] := fun h => by rw [rws_get, hdw]; rfl
        have hrl := rws_len (enc := encB) (dW i u l j)
        have hbt := bytesOf_rws (dW i u l j)
        have htk : (rws encB (dW i u l j)).take (dW i u l j).length = rws encB (dW i u l j) := List.take_of_length_le (by omega)
        have happ := dWs_app i u l j
        have hsa := rowsS_app (dWs i u l j) (dW i u l j)
        rw [happ] at hsa
        have hBm : (⟨(dW i u l j).toArray⟩ : ByteArray) = B (dW i u l j) := rfl
        generalize (dW i u l j).length = wl at *
        generalize hR' : rowsS (dWs i u l (j + 1)) = R' at *
        generalize rowsS (dWs i u l j) = R at *
        generalize rws encB (dW i u l j) = RB at *
        generalize rws encO (dWs i u l i) = RO at *
        simp [tm, hjl, hs, hdp, hgr, hcell, hrl, hbt, htk, hBm, evalW, source, hsl, hsa]
        exact ⟨by omega, j + 1, by omega, by omega, by simp, by rw [hR']⟩
      · have : j = i := by omega
        subst this
        have htk : (rowsS (dWs j u l j)).take j = rowsS (dWs j u l j) := List.take_of_length_le (by omega)
        have hwd := rowsS_len Wd
        rw [hwl] at hwd
        generalize rowsS (dWs j u l j) = R at *
        simp [tm, rcall80, hen, hsl, htk, storeM, evalW, hwd, resW, hwl]
end Go.Ae.C3
namespace Go.Ae.C3
set_option linter.unusedSimpArgs false
set_option linter.unusedVariables false
def resWE (v0 v1 v2 v3 : Int) (C : List ByteArray) (e : Int) : Res := ⟨.tup [.agg [.int .i64 v0, .int .i64 v1, .int .i64 v2, .int .i64 v3, .sl 0 0 0 [] 0 C.length], .int .i64 e], [⟨0, 1, false, true, rws encT C⟩], []⟩
theorem tkE {α : Type} {enc : α → List AV} {l : List α} {n : Nat} (h : l.length = n) : (rws enc l).take n = rws enc l := by subst h; exact rws_takeLen enc l
end Go.Ae.C3
