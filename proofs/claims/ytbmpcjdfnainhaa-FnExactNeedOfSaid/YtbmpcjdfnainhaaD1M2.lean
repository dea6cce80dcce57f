/- Marks in rows that own rows. -/
import Derived.Test.YtbmpcjdfnainhaaD1M1
namespace Go.Ae.D1
set_option linter.unusedSimpArgs false
set_option linter.unusedVariables false
set_option maxRecDepth 10000
theorem cell_in {rows : List (List AV)} {i : Nat} {x0 x1 x2 x3 : AV} (h : rows[i]? = some [x0, x1, x2, x3]) (v : AV) : (setCell rows i 2 v)[i]? = some [x0, x1, v, x3] := by
  simp [setCell, List.getElem?_modify, h]
theorem cell_cell (rows : List (List AV)) (i : Nat) (v u : AV) : setCell (setCell rows i 2 v) i 2 u = setCell rows i 2 u := by
  unfold setCell
  rw [List.modify_modify_eq]
  congr 1
  funext r
  simp
theorem cell_same {rows : List (List AV)} {i : Nat} {x0 x1 x2 x3 : AV} (h : rows[i]? = some [x0, x1, x2, x3]) : setCell rows i 2 x2 = rows := by
  apply List.ext_getElem? fun j => ?_
  by_cases hj : i = j
  · subst hj; rw [cell_in h, h]
  · simp [setCell, List.getElem?_modify, hj]
/-- The block when j of a row's own numbers are marked. -/
def nblk (ver : Nat) (rows : List (List AV)) (i : Nat) (us : List Int) (c : Int) (j : Nat) : Blk := ⟨ver, 4, false, false, setCell rows i 2 (.own true (rws encI (mix (mkI c) us j)))⟩
set_option maxHeartbeats 4000000 in
theorem markInt64SN (k lv : Nat) (E : List Heap) (S ver i0 : Nat) (rows : List (List AV)) (x0 x1 x3 : AV) (us : List Int) (c : Int) (hn : us.length ≤ 1100000) (hc : 1 ≤ c ∧ c ≤ 800000000) (hlv : lv < E.length) (hrow : rows[i0]? = some [x0, x1, .own true (rws encI us), x3]) (hl : (hat E lv).get S = some (some ⟨ver, 4, false, false, rows⟩)) :
    call code (k + 1) 47 [.sl (lv + 1) S ver [(i0, 2)] 0 us.length, .int .i64 c] E = some ⟨.int .i64 (c + us.length), [], E.modify lv fun h => hp h S (nblk ver rows i0 us c) us.length⟩ := by
  refine call_run rfl fn47 rfl ?_
  simp [F47]
  refine RunC_loop (fun i : Nat => ⟨tm 19 [(0, .sl (lv + 1) S ver [(i0, 2)] 0 us.length), (1, .int .i64 (c + i)), (5, .int .i64 i)], [], E.modify lv fun h => hp h S (nblk ver rows i0 us c) i⟩)
    (fun i => i ≤ us.length) (fun i => us.length - i) 0 (Nat.zero_le _) (by simp; omega) (by simp [tm, hp_zero, modify_id']) fun i hi _ => ?_
  have hg : (hp (hat E lv) S (nblk ver rows i0 us c) i).get S = some (some ⟨ver, 4, false, false, setCell rows i0 2 (.own true (rws encI (mix (mkI c) us i)))⟩) := hp_get (by rw [hl, nblk, mix_zero, cell_same hrow]) i
  have hml := mix_len (f := mkI c) hi
  have hin := fun v => cell_in hrow v
  have hcc := fun v u => cell_cell rows i0 v u
  by_cases hlt : i < us.length
  · have hs := idx_succ' hlt (by omega)
    have hset : (rws encI (mix (mkI c) us i)).set i (encI (mkI c i)) = rws encI (mix (mkI c) us (i + 1)) := by rw [rws_set, mix_set hlt]
    have hhs : ∀ h : Heap, (hp h S (nblk ver rows i0 us c) i).set S (some ⟨ver, 4, false, false, setCell rows i0 2 (.own true (rws encI (mix (mkI c) us (i + 1))))⟩) = hp h S (nblk ver rows i0 us c) (i + 1) := fun h => hp_set i
    have p0 : IntKind.wrap .i64 (c + (i : Int) + 1) = c + ((i + 1 : Nat) : Int) := by rw [wrap64 ⟨by omega, by omega⟩] <;> omega
    simp only [encI, mkI] at hset
    simp [tm, hlt, hg, hin, hcc, blk_succ, heap_succ, put_succ, storeM, hat_modify, modify_modify', hlv, hml, hs, get_set, set_set_same, encI, hset, hhs, p0]
    exact ⟨i + 1, by omega, by omega, by simp⟩
  · have : i = us.length := by omega
    subst this
    simp [tm, hg, hin, blk_succ, hml, hat_modify, hlv]
theorem hp_after {l : Heap} {S : Nat} {b : Nat → Blk} {x : Blk} (h : b 0 = x) (n : Nat) : hp (l.set S (some x)) S b n = l.set S (some (b n)) := by
  subst h
  rw [hp_all (by rw [set_set_same]), set_set_same]
/-- The block when i intervals are marked. -/
def mkb (ver : Nat) (c : Int) (ws : List GIv) (i : Nat) : Blk := ⟨ver, 4, false, false, rws GIv.enco (mkd c ws i)⟩
theorem wsum_take {α : Type} {w : α → Nat} (l : List α) (i : Nat) : wsum w l = wsum w (l.take i) + wsum w (l.drop i) := by
  unfold wsum
  rw [← List.sum_append, ← List.map_append, List.take_append_drop]
set_option maxHeartbeats 8000000 in
theorem markIntervalS (k lv : Nat) (E : List Heap) (S ver : Nat) (ws : List GIv) (c : Int) (hn : ws.length ≤ 1100000) (hw : wsum GIv.wt ws ≤ 1100000) (hc : 1 ≤ c ∧ c ≤ 400000000) (hlv : lv < E.length) (hl : (hat E lv).get S = some (some ⟨ver, 4, false, false, rws GIv.enco ws⟩)) :
    call code (k + 2) 14 [.sl (lv + 1) S ver [] 0 ws.length, .int .i64 c] E = some ⟨.int .i64 (nxtM c ws), [], E.modify lv fun h => hp h S (mkb ver c ws) ws.length⟩ := by
  refine call_run rfl fn14 rfl ?_
  simp [F14]
  refine RunC_loop (fun i : Nat => ⟨tm 43 [(0, .sl (lv + 1) S ver [] 0 ws.length), (1, .int .i64 (nxtM c (ws.take i))), (5, .int .i64 i)], [], E.modify lv fun h => hp h S (mkb ver c ws) i⟩)
    (fun i => i ≤ ws.length) (fun i => ws.length - i) 0 (Nat.zero_le _) (by simp; omega) (by simp [tm, hp_zero, modify_id', nxtM]) fun i hi _ => ?_
  have hg : (hp (hat E lv) S (mkb ver c ws) i).get S = some (some ⟨ver, 4, false, false, rws GIv.enco (mkd c ws i)⟩) := hp_get (by rw [hl, mkb, mkd_zero]) i
  have hml := mkd_len (c := c) hi
  by_cases hlt : i < ws.length
  · have hs := idx_succ' hlt (by omega)
    have hset : (rws GIv.enco (mkd c ws i)).set i (GIv.enco (ws[i].mkAt (nxtM c (ws.take i)))) = rws GIv.enco (mkd c ws (i + 1)) := by rw [rws_set, mkd_set hlt]
    have hhs : ∀ h : Heap, (hp h S (mkb ver c ws) i).set S (some ⟨ver, 4, false, false, rws GIv.enco (mkd c ws (i + 1))⟩) = hp h S (mkb ver c ws) (i + 1) := fun h => hp_set i
    have hnx := nxtM_succ (c := c) hlt
    have hb1 := nxtM_bound c (ws.take i)
    have hb2 := wsum_take (w := GIv.wt) ws i
    rw [wsum_drop hlt] at hb2
    have hwt : GIv.wt ws[i] = ws[i].Acting.length := rfl
    have htl : (ws.take i).length = i := by simp; omega
    rw [htl] at hb1
    rw [hwt] at hb2
    have hRl : (rws GIv.enco (mkd c ws i)).length = ws.length := by rw [rws_len, hml]
    have hRg : ∀ h : i < (rws GIv.enco (mkd c ws i)).length, (rws GIv.enco (mkd c ws i))[i]'h = GIv.enco ws[i] := fun h => by rw [rws_get, mkd_at hlt]
    have hall : ∀ r ∈ rws GIv.enco (mkd c ws i), True := fun _ _ => trivial
    generalize hc' : nxtM c (ws.take (i + 1)) = c' at *
    generalize nxtM c (ws.take i) = ci at *
    generalize hR' : rws GIv.enco (mkd c ws (i + 1)) = R' at *
    generalize rws GIv.enco (mkd c ws i) = R at *
    generalize ws[i] = x at *
    obtain ⟨xf, xl, us, xm⟩ := x
    simp only [GIv.enco, GIv.mkAt] at hset hRg hnx hb2
    have p0 : IntKind.wrap .i64 (ci + 1) = ci + 1 := wrap64 ⟨by omega, by omega⟩
    have p1 : IntKind.wrap .i64 (ci + 1 + 1) = ci + 2 := by rw [wrap64 ⟨by omega, by omega⟩]; omega
    have p3 : (ci + 2 + (us.length : Int)).tmod 3 = (ci + 2 + (us.length : Int)) % 3 := Int.tmod_eq_emod_of_nonneg (by omega)
    have p4 : IntKind.wrap .i64 (ci + 2 + (us.length : Int) + 1) = c' := by rw [wrap64 ⟨by omega, by omega⟩] <;> omega
    have hrow : (R.set i [.int .i64 ci, .int .i64 (ci + 1), .own true (rws encI us), .bool xm])[i]? = some [.int .i64 ci, .int .i64 (ci + 1), .own true (rws encI us), .bool xm] := by simp [hRl, hlt]
    have q := fun k l0 => markInt64SN k (lv + 1) (l0 :: E.modify lv fun h => (hp h S (mkb ver c ws) i).set S (some ⟨ver, 4, false, false, R.set i [.int .i64 ci, .int .i64 (ci + 1), .own true (rws encI us), .bool xm]⟩)) S ver i _ _ _ _ us (ci + 2) (by omega) (by omega) (by simp; exact hlv) hrow (by rw [hat_cons, hat_modify hlv, get_set, if_pos rfl])
    have hfin : nblk ver (R.set i [.int .i64 ci, .int .i64 (ci + 1), .own true (rws encI us), .bool xm]) i us (ci + 2) us.length = ⟨ver, 4, false, false, R.set i [.int .i64 ci, .int .i64 (ci + 1), .own true (rws encI (marks mkI (ci + 2) us.length)), .bool xm]⟩ := by
      unfold nblk
      rw [mix_all]
      have hx : setCell (R.set i [.int .i64 ci, .int .i64 (ci + 1), .own true (rws encI us), .bool xm]) i 2 (.own true (rws encI (marks mkI (ci + 2) us.length))) = R.set i [.int .i64 ci, .int .i64 (ci + 1), .own true (rws encI (marks mkI (ci + 2) us.length)), .bool xm] := by
        apply List.ext_getElem? fun j => ?_
        by_cases hj : i = j
        · subst hj; simp [setCell, List.getElem?_modify, hRl, hlt]
        · simp [setCell, List.getElem?_modify, List.getElem?_set, hj]
      exact congrArg (fun e => (⟨ver, 4, false, false, e⟩ : Blk)) hx
    have hz : nblk ver (R.set i [.int .i64 ci, .int .i64 (ci + 1), .own true (rws encI us), .bool xm]) i us (ci + 2) 0 = ⟨ver, 4, false, false, R.set i [.int .i64 ci, .int .i64 (ci + 1), .own true (rws encI us), .bool xm]⟩ := by
      unfold nblk; rw [mix_zero, cell_same hrow]
    have hpa := fun l : Heap => hp_after (l := l) (S := S) hz us.length
    rw [hfin] at hpa
    simp [tm, hlt, hg, hRl, hRg, blk_succ, heap_succ, put_succ, storeM, hat_modify, modify_modify', hlv, hs, get_set, set_set_same, rcall47, q, hpa, p0, p1, p3, p4, hset, hhs]
    exact ⟨i + 1, by omega, by omega, ⟨hc'.symm, by simp⟩, rfl⟩
  · have : i = ws.length := by omega
    subst this
    simp [tm, hg, blk_succ, hml, hat_modify, hlv]
theorem mkl_at {c : Int} {ws : List GIv} {i : Nat} (h : i < ws.length) (h' : i < (mkl c ws).length) : (mkl c ws)[i] = ws[i].mkAt (nxtM c (ws.take i)) := by
  have h1 : mkl c ws = mkl c (ws.take i) ++ mkl (nxtM c (ws.take i)) (ws.drop i) := by rw [← mkl_app, List.take_append_drop]
  have h2 : (mkl c ws)[i]? = some (ws[i].mkAt (nxtM c (ws.take i))) := by
    have hl : (mkl c (ws.take i)).length = i := by rw [mkl_len]; simp; omega
    rw [h1, List.getElem?_append_right (by omega), hl, Nat.sub_self, List.drop_eq_getElem_cons h]
    rfl
  rw [List.getElem?_eq_getElem h'] at h2
  exact Option.some.inj h2
set_option maxHeartbeats 8000000 in
theorem heldIntervalS (k : Nat) (ws : List GIv) (c : Int) (hn : ws.length ≤ 1100000) (hw : wsum GIv.wt ws ≤ 1100000) (hc : 1 ≤ c ∧ c ≤ 400000000) : call code (k + 2) 19 [.rd false (rws GIv.enc (mkl c ws)), .int .i64 c] [] = some ⟨.int .i64 (nxtM c ws), [], []⟩ := by
  refine call_run rfl fn19 rfl ?_
  have hl := mkl_len c ws
  simp [F19, hl]
  refine RunC_loop (fun i : Nat => ⟨tm 51 [(0, .rd false (rws GIv.enc (mkl c ws))), (1, .int .i64 (nxtM c (ws.take i))), (5, .int .i64 i)], [], []⟩)
    (fun i => i ≤ ws.length) (fun i => ws.length - i) 0 (Nat.zero_le _) (by simp; omega) (by simp [tm, nxtM]) fun i hi _ => ?_
  by_cases hlt : i < ws.length
  · have hs := idx_succ' hlt (by omega)
    have hnx := nxtM_succ (c := c) hlt
    have hb1 := nxtM_bound c (ws.take i)
    have hb2 := wsum_take (w := GIv.wt) ws i
    rw [wsum_drop hlt] at hb2
    have hwt : GIv.wt ws[i] = ws[i].Acting.length := rfl
    have htl : (ws.take i).length = i := by simp; omega
    rw [htl] at hb1
    rw [hwt] at hb2
    have hRl : (rws GIv.enc (mkl c ws)).length = ws.length := by rw [rws_len, hl]
    have hRg : ∀ h : i < (rws GIv.enc (mkl c ws)).length, (rws GIv.enc (mkl c ws))[i]'h = GIv.enc (ws[i].mkAt (nxtM c (ws.take i))) := fun h => by rw [rws_get, mkl_at hlt]
    generalize hc' : nxtM c (ws.take (i + 1)) = c' at *
    generalize nxtM c (ws.take i) = ci at *
    generalize rws GIv.enc (mkl c ws) = R at *
    generalize ws[i] = x at *
    obtain ⟨xf, xl, us, xm⟩ := x
    simp only [GIv.enc, GIv.mkAt] at hRg hnx hb2
    have p0 : IntKind.wrap .i64 (ci + 1) = ci + 1 := wrap64 ⟨by omega, by omega⟩
    have p1 : IntKind.wrap .i64 (ci + 1 + 1) = ci + 2 := by rw [wrap64 ⟨by omega, by omega⟩]; omega
    have p3 : (ci + 2 + (us.length : Int)).tmod 3 = (ci + 2 + (us.length : Int)) % 3 := Int.tmod_eq_emod_of_nonneg (by omega)
    have p4 : IntKind.wrap .i64 (ci + 2 + (us.length : Int) + 1) = c' := by rw [wrap64 ⟨by omega, by omega⟩] <;> omega
    have q := fun k => heldInt64S k us.length (ci + 2) (by omega) (by omega)
    have d1 : decide (ci + 2 + (us.length : Int) < 0) = false := by simp; omega
    simp [tm, hlt, hRl, hRg, hs, rcall48, q, d1, p0, p1, p3, p4]
    exact ⟨i + 1, by omega, by omega, hc'.symm, by simp⟩
  · have : i = ws.length := by omega
    subst this
    simp [tm, hl]
end Go.Ae.D1
