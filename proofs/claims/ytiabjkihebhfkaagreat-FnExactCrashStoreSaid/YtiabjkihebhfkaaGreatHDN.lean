/- States in a row, marked. -/
import Derived.Test.YtiabjkihebhfkaaGreatHDM
namespace Go.Ae.GA.B
set_option linter.unusedSimpArgs false
set_option linter.unusedVariables false
set_option maxRecDepth 10000
namespace GSt
/-- How many marks one takes. -/
def tot (x : GSt) : Nat := 8 + 5 * x.hs.length + 4 * x.ls.length + 10 * x.es.length + 6 * x.cs.length
/-- Marked from c on. -/
def mkAt (c : Int) (x : GSt) : GSt := ⟨c, c + 1, c + 2, c + 3, c + 4, c + 5, marks GHead.mkAt (c + 6) x.hs.length, marks GLast.mkAt (c + 6 + 5 * x.hs.length) x.ls.length, marks GEntry.mkAt (c + 6 + 5 * x.hs.length + 4 * x.ls.length) x.es.length,
  c + 6 + 5 * x.hs.length + 4 * x.ls.length + 10 * x.es.length, c + 6 + 5 * x.hs.length + 4 * x.ls.length + 10 * x.es.length + 1, marks GChunk.mkAt (c + 6 + 5 * x.hs.length + 4 * x.ls.length + 10 * x.es.length + 2) x.cs.length⟩
end GSt
def nxtM : Int → List GSt → Int
  | c, [] => c
  | c, x :: r => nxtM (c + x.tot) r
def mkl : Int → List GSt → List GSt
  | _, [] => []
  | c, x :: r => x.mkAt c :: mkl (c + x.tot) r
/-- The first i marked. -/
def mkd (c : Int) (ws : List GSt) (i : Nat) : List GSt := mkl c (ws.take i) ++ ws.drop i
theorem mkl_len : ∀ (c : Int) (ws : List GSt), (mkl c ws).length = ws.length
  | _, [] => rfl
  | c, x :: r => by simp [mkl, mkl_len]
theorem nxtM_app : ∀ (c : Int) (ws vs : List GSt), nxtM c (ws ++ vs) = nxtM (nxtM c ws) vs
  | _, [], _ => rfl
  | c, x :: r, vs => by simp only [List.cons_append, nxtM]; exact nxtM_app _ r vs
theorem mkl_app : ∀ (c : Int) (ws vs : List GSt), mkl c (ws ++ vs) = mkl c ws ++ mkl (nxtM c ws) vs
  | _, [], _ => rfl
  | c, x :: r, vs => by simp only [List.cons_append, mkl, nxtM, mkl_app _ r vs]
theorem nxtM_bound : ∀ (c : Int) (ws : List GSt), c ≤ nxtM c ws ∧ nxtM c ws ≤ c + 8 * ws.length + 10 * wsum GSt.wt ws
  | c, [] => by simp [nxtM, wsum]
  | c, x :: r => by
    rw [nxtM]
    have h1 := nxtM_bound (c + x.tot) r
    have h : wsum GSt.wt (x :: r) = x.wt + wsum GSt.wt r := by simp [wsum]
    have h2 : x.tot ≤ 8 + 10 * x.wt := by unfold GSt.tot GSt.wt; omega
    rw [h]; simp; omega
theorem mkd_len {c : Int} {ws : List GSt} {i : Nat} (h : i ≤ ws.length) : (mkd c ws i).length = ws.length := by simp [mkd, mkl_len]; omega
theorem mkd_zero (c : Int) (ws : List GSt) : mkd c ws 0 = ws := by simp [mkd, mkl]
theorem mkd_all (c : Int) (ws : List GSt) : mkd c ws ws.length = mkl c ws := by simp [mkd]
theorem mkd_at {c : Int} {ws : List GSt} {i : Nat} (h : i < ws.length) (h' : i < (mkd c ws i).length) : (mkd c ws i)[i] = ws[i] := by
  have h2 : (mkd c ws i)[i]? = some ws[i] := by
    have hl : (mkl c (ws.take i)).length = i := by rw [mkl_len]; simp; omega
    rw [show mkd c ws i = mkl c (ws.take i) ++ ws.drop i from rfl, List.getElem?_append_right (by omega), hl]
    simp
  rw [List.getElem?_eq_getElem h'] at h2
  exact Option.some.inj h2
theorem mkd_set {c : Int} {ws : List GSt} {i : Nat} (h : i < ws.length) : (mkd c ws i).set i (ws[i].mkAt (nxtM c (ws.take i))) = mkd c ws (i + 1) := by
  have hl : (mkl c (ws.take i)).length = i := by rw [mkl_len]; simp; omega
  unfold mkd
  rw [List.set_append_right i _ (by omega), hl, Nat.sub_self, List.drop_eq_getElem_cons h, List.set_cons_zero, List.take_succ_eq_append_getElem h, mkl_app]
  simp [mkl]
theorem nxtM_succ {c : Int} {ws : List GSt} {i : Nat} (h : i < ws.length) : nxtM c (ws.take (i + 1)) = nxtM c (ws.take i) + ws[i].tot := by
  rw [List.take_succ_eq_append_getElem h, nxtM_app]; rfl
theorem wsum_take {α : Type} {w : α → Nat} (l : List α) (i : Nat) : wsum w l = wsum w (l.take i) + wsum w (l.drop i) := by
  unfold wsum
  rw [← List.sum_append, ← List.map_append, List.take_append_drop]
theorem hp_after {l : Heap} {S : Nat} {b : Nat → Blk} {x : Blk} (h : b 0 = x) (n : Nat) : hp (l.set S (some x)) S b n = l.set S (some (b n)) := by
  subst h
  rw [hp_all (by rw [set_set_same]), set_set_same]
/-- The block when i states are marked. -/
def mkb (ver : Nat) (c : Int) (ws : List GSt) (i : Nat) : Blk := ⟨ver, 12, false, false, rws GSt.enco (mkd c ws i)⟩
theorem setCell_row {R : List (List AV)} {i d : Nat} {r : List AV} (v : AV) (h : i < R.length) : setCell (R.set i r) i d v = R.set i (r.set d v) := by
  apply List.ext_getElem? fun j => ?_
  by_cases hj : i = j
  · subst hj; simp [setCell, List.getElem?_modify, h]
  · simp [setCell, List.getElem?_modify, List.getElem?_set, hj]
theorem cellAt_row {R : List (List AV)} {i d : Nat} {r : List AV} (h : i < R.length) : cellAt (R.set i r) i d = r[d]? := by
  simp [cellAt, h]
/-- What one nested marking leaves. -/
theorem nest {α : Type} {ver i d : Nat} {R : List (List AV)} {r : List AV} {enc : α → List AV} {mk : Int → Nat → α} {c : Int} {ws : List α} {S : Nat} (l : Heap) (hi : i < R.length) (hc : r[d]? = some (.own true (rws enc ws))) :
    hp (l.set S (some ⟨ver, 12, false, false, R.set i r⟩)) S (nblk ver (R.set i r) i d enc mk c ws) ws.length = l.set S (some ⟨ver, 12, false, false, R.set i (r.set d (.own true (rws enc (marks mk c ws.length))))⟩) := by
  rw [hp_after (nblk_zero (by rw [cellAt_row hi]; exact hc))]
  unfold nblk
  rw [mix_all, setCell_row _ hi]
  rfl
set_option maxHeartbeats 32000000 in
theorem markPgStateS (k lv : Nat) (E : List Heap) (S ver : Nat) (ws : List GSt) (c : Int) (hn : ws.length ≤ 1048576) (hw : wsum GSt.wt ws ≤ 1048576) (hc : 1 ≤ c ∧ c ≤ 200000000) (hlv : lv < E.length) (hl : (hat E lv).get S = some (some ⟨ver, 12, false, false, rws GSt.enco ws⟩)) :
    call code (k + 3) 134 [.sl (lv + 1) S ver [] 0 ws.length, .int .i64 c] E = some ⟨.int .i64 (nxtM c ws), [], E.modify lv fun h => hp h S (mkb ver c ws) ws.length⟩ := by
  refine call_run rfl fn134 rfl ?_
  simp [F134]
  refine RunC_loop (fun i : Nat => ⟨tm 103 [(0, .sl (lv + 1) S ver [] 0 ws.length), (1, .int .i64 (nxtM c (ws.take i))), (5, .int .i64 i)], [], E.modify lv fun h => hp h S (mkb ver c ws) i⟩)
    (fun i => i ≤ ws.length) (fun i => ws.length - i) 0 (Nat.zero_le _) (by simp; omega) (by simp [tm, hp_zero, modify_id', nxtM]) fun i hi _ => ?_
  have hg : (hp (hat E lv) S (mkb ver c ws) i).get S = some (some ⟨ver, 12, false, false, rws GSt.enco (mkd c ws i)⟩) := hp_get (by rw [hl, mkb, mkd_zero]) i
  have hml := mkd_len (c := c) hi
  by_cases hlt : i < ws.length
  · have hs := idx_succ' hlt (by omega)
    have hset : (rws GSt.enco (mkd c ws i)).set i (GSt.enco (ws[i].mkAt (nxtM c (ws.take i)))) = rws GSt.enco (mkd c ws (i + 1)) := by rw [rws_set, mkd_set hlt]
    have hhs : ∀ h : Heap, (hp h S (mkb ver c ws) i).set S (some ⟨ver, 12, false, false, rws GSt.enco (mkd c ws (i + 1))⟩) = hp h S (mkb ver c ws) (i + 1) := fun h => hp_set i
    have hnx := nxtM_succ (c := c) hlt
    have hb1 := nxtM_bound c (ws.take i)
    have hb2 := wsum_take (w := GSt.wt) ws i
    rw [wsum_drop hlt] at hb2
    have hwt : ws[i].hs.length + ws[i].ls.length + ws[i].es.length + ws[i].cs.length ≤ GSt.wt ws[i] := by unfold GSt.wt; omega
    have htl : (ws.take i).length = i := by simp; omega
    rw [htl] at hb1
    have hRl : (rws GSt.enco (mkd c ws i)).length = ws.length := by rw [rws_len, hml]
    have hRg : ∀ h : i < (rws GSt.enco (mkd c ws i)).length, (rws GSt.enco (mkd c ws i))[i]'h = GSt.enco ws[i] := fun h => by rw [rws_get, mkd_at hlt]
    generalize hc' : nxtM c (ws.take (i + 1)) = c' at *
    generalize nxtM c (ws.take i) = ci at *
    generalize hR' : rws GSt.enco (mkd c ws (i + 1)) = R' at *
    generalize rws GSt.enco (mkd c ws i) = R at *
    generalize GSt.wt ws[i] = wi at *
    generalize ws[i] = x at *
    obtain ⟨p0, p1, se, st, te, ts, xh, xl, xe, fe, fs, xc⟩ := x
    have htot : (GSt.tot ⟨p0, p1, se, st, te, ts, xh, xl, xe, fe, fs, xc⟩ : Int) = 8 + 5 * xh.length + 4 * xl.length + 10 * xe.length + 6 * xc.length := by simp [GSt.tot]
    rw [htot] at hnx
    simp only at hwt
    simp only [GSt.enco, GSt.mkAt] at hset hRg
    have hi2 : i < R.length := by omega
    have w0 : IntKind.wrap .i64 (ci + 1) = ci + 1 := wrap64 ⟨by omega, by omega⟩
    have w1 : IntKind.wrap .i64 (ci + 1 + 1) = ci + 2 := by rw [wrap64 ⟨by omega, by omega⟩]; omega
    have w2 : IntKind.wrap .i64 (ci + 2 + 1) = ci + 3 := by rw [wrap64 ⟨by omega, by omega⟩]; omega
    have w3 : IntKind.wrap .i64 (ci + 3 + 1) = ci + 4 := by rw [wrap64 ⟨by omega, by omega⟩]; omega
    have w4 : IntKind.wrap .i64 (ci + 4 + 1) = ci + 5 := by rw [wrap64 ⟨by omega, by omega⟩]; omega
    have w5 : IntKind.wrap .i64 (ci + 5 + 1) = ci + 6 := by rw [wrap64 ⟨by omega, by omega⟩]; omega
    have w6 : IntKind.wrap .i64 (ci + 6 + 5 * (xh.length : Int) + 4 * xl.length + 10 * xe.length + 1) = ci + 6 + 5 * (xh.length : Int) + 4 * xl.length + 10 * xe.length + 1 := wrap64 ⟨by omega, by omega⟩
    have w7 : IntKind.wrap .i64 (ci + 6 + 5 * (xh.length : Int) + 4 * xl.length + 10 * xe.length + 1 + 1) = ci + 6 + 5 * (xh.length : Int) + 4 * xl.length + 10 * xe.length + 2 := by rw [wrap64 ⟨by omega, by omega⟩]; omega
    have q1 := fun k l0 => markHeadN k (lv + 1) (l0 :: E.modify lv fun h => (hp h S (mkb ver c ws) i).set S (some ⟨ver, 12, false, false, R.set i [.int .i64 ci, .int .i64 (ci + 1), .int .i64 (ci + 2), .int .i64 (ci + 3), .int .i64 (ci + 4), .int .i64 (ci + 5), .own true (rws GHead.enc xh), .own true (rws GLast.enc xl), .own true (rws GEntry.enc xe), .int .i64 fe, .int .i64 fs, .own true (rws GChunk.enc xc)]⟩)) S ver i (R.set i [.int .i64 ci, .int .i64 (ci + 1), .int .i64 (ci + 2), .int .i64 (ci + 3), .int .i64 (ci + 4), .int .i64 (ci + 5), .own true (rws GHead.enc xh), .own true (rws GLast.enc xl), .own true (rws GEntry.enc xe), .int .i64 fe, .int .i64 fs, .own true (rws GChunk.enc xc)]) xh (ci + 6) (by omega) (by omega) (by simp; exact hlv) (by rw [cellAt_row hi2]; rfl) (by rw [hat_cons, hat_modify hlv, get_set, if_pos rfl])
    have n1 := fun l => nest (ver := ver) (S := S) (enc := GHead.enc) (mk := GHead.mkAt) (c := (ci + 6)) (ws := xh) (d := 6) (R := R) (i := i) (r := [.int .i64 ci, .int .i64 (ci + 1), .int .i64 (ci + 2), .int .i64 (ci + 3), .int .i64 (ci + 4), .int .i64 (ci + 5), .own true (rws GHead.enc xh), .own true (rws GLast.enc xl), .own true (rws GEntry.enc xe), .int .i64 fe, .int .i64 fs, .own true (rws GChunk.enc xc)]) l hi2 rfl
    simp only [List.set] at n1
    have q2 := fun k l0 => markLastN k (lv + 1) (l0 :: E.modify lv fun h => (hp h S (mkb ver c ws) i).set S (some ⟨ver, 12, false, false, R.set i [.int .i64 ci, .int .i64 (ci + 1), .int .i64 (ci + 2), .int .i64 (ci + 3), .int .i64 (ci + 4), .int .i64 (ci + 5), .own true (rws GHead.enc (marks GHead.mkAt (ci + 6) xh.length)), .own true (rws GLast.enc xl), .own true (rws GEntry.enc xe), .int .i64 fe, .int .i64 fs, .own true (rws GChunk.enc xc)]⟩)) S ver i (R.set i [.int .i64 ci, .int .i64 (ci + 1), .int .i64 (ci + 2), .int .i64 (ci + 3), .int .i64 (ci + 4), .int .i64 (ci + 5), .own true (rws GHead.enc (marks GHead.mkAt (ci + 6) xh.length)), .own true (rws GLast.enc xl), .own true (rws GEntry.enc xe), .int .i64 fe, .int .i64 fs, .own true (rws GChunk.enc xc)]) xl (ci + 6 + 5 * (xh.length : Int)) (by omega) (by omega) (by simp; exact hlv) (by rw [cellAt_row hi2]; rfl) (by rw [hat_cons, hat_modify hlv, get_set, if_pos rfl])
    have n2 := fun l => nest (ver := ver) (S := S) (enc := GLast.enc) (mk := GLast.mkAt) (c := (ci + 6 + 5 * (xh.length : Int))) (ws := xl) (d := 7) (R := R) (i := i) (r := [.int .i64 ci, .int .i64 (ci + 1), .int .i64 (ci + 2), .int .i64 (ci + 3), .int .i64 (ci + 4), .int .i64 (ci + 5), .own true (rws GHead.enc (marks GHead.mkAt (ci + 6) xh.length)), .own true (rws GLast.enc xl), .own true (rws GEntry.enc xe), .int .i64 fe, .int .i64 fs, .own true (rws GChunk.enc xc)]) l hi2 rfl
    simp only [List.set] at n2
    have q3 := fun k l0 => markEntryN k (lv + 1) (l0 :: E.modify lv fun h => (hp h S (mkb ver c ws) i).set S (some ⟨ver, 12, false, false, R.set i [.int .i64 ci, .int .i64 (ci + 1), .int .i64 (ci + 2), .int .i64 (ci + 3), .int .i64 (ci + 4), .int .i64 (ci + 5), .own true (rws GHead.enc (marks GHead.mkAt (ci + 6) xh.length)), .own true (rws GLast.enc (marks GLast.mkAt (ci + 6 + 5 * (xh.length : Int)) xl.length)), .own true (rws GEntry.enc xe), .int .i64 fe, .int .i64 fs, .own true (rws GChunk.enc xc)]⟩)) S ver i (R.set i [.int .i64 ci, .int .i64 (ci + 1), .int .i64 (ci + 2), .int .i64 (ci + 3), .int .i64 (ci + 4), .int .i64 (ci + 5), .own true (rws GHead.enc (marks GHead.mkAt (ci + 6) xh.length)), .own true (rws GLast.enc (marks GLast.mkAt (ci + 6 + 5 * (xh.length : Int)) xl.length)), .own true (rws GEntry.enc xe), .int .i64 fe, .int .i64 fs, .own true (rws GChunk.enc xc)]) xe (ci + 6 + 5 * (xh.length : Int) + 4 * xl.length) (by omega) (by omega) (by simp; exact hlv) (by rw [cellAt_row hi2]; rfl) (by rw [hat_cons, hat_modify hlv, get_set, if_pos rfl])
    have n3 := fun l => nest (ver := ver) (S := S) (enc := GEntry.enc) (mk := GEntry.mkAt) (c := (ci + 6 + 5 * (xh.length : Int) + 4 * xl.length)) (ws := xe) (d := 8) (R := R) (i := i) (r := [.int .i64 ci, .int .i64 (ci + 1), .int .i64 (ci + 2), .int .i64 (ci + 3), .int .i64 (ci + 4), .int .i64 (ci + 5), .own true (rws GHead.enc (marks GHead.mkAt (ci + 6) xh.length)), .own true (rws GLast.enc (marks GLast.mkAt (ci + 6 + 5 * (xh.length : Int)) xl.length)), .own true (rws GEntry.enc xe), .int .i64 fe, .int .i64 fs, .own true (rws GChunk.enc xc)]) l hi2 rfl
    simp only [List.set] at n3
    have q4 := fun k l0 => markChunkN k (lv + 1) (l0 :: E.modify lv fun h => (hp h S (mkb ver c ws) i).set S (some ⟨ver, 12, false, false, R.set i [.int .i64 ci, .int .i64 (ci + 1), .int .i64 (ci + 2), .int .i64 (ci + 3), .int .i64 (ci + 4), .int .i64 (ci + 5), .own true (rws GHead.enc (marks GHead.mkAt (ci + 6) xh.length)), .own true (rws GLast.enc (marks GLast.mkAt (ci + 6 + 5 * (xh.length : Int)) xl.length)), .own true (rws GEntry.enc (marks GEntry.mkAt (ci + 6 + 5 * (xh.length : Int) + 4 * xl.length) xe.length)), .int .i64 (ci + 6 + 5 * (xh.length : Int) + 4 * xl.length + 10 * xe.length), .int .i64 (ci + 6 + 5 * (xh.length : Int) + 4 * xl.length + 10 * xe.length + 1), .own true (rws GChunk.enc xc)]⟩)) S ver i (R.set i [.int .i64 ci, .int .i64 (ci + 1), .int .i64 (ci + 2), .int .i64 (ci + 3), .int .i64 (ci + 4), .int .i64 (ci + 5), .own true (rws GHead.enc (marks GHead.mkAt (ci + 6) xh.length)), .own true (rws GLast.enc (marks GLast.mkAt (ci + 6 + 5 * (xh.length : Int)) xl.length)), .own true (rws GEntry.enc (marks GEntry.mkAt (ci + 6 + 5 * (xh.length : Int) + 4 * xl.length) xe.length)), .int .i64 (ci + 6 + 5 * (xh.length : Int) + 4 * xl.length + 10 * xe.length), .int .i64 (ci + 6 + 5 * (xh.length : Int) + 4 * xl.length + 10 * xe.length + 1), .own true (rws GChunk.enc xc)]) xc (ci + 6 + 5 * (xh.length : Int) + 4 * xl.length + 10 * xe.length + 2) (by omega) (by omega) (by simp; exact hlv) (by rw [cellAt_row hi2]; rfl) (by rw [hat_cons, hat_modify hlv, get_set, if_pos rfl])
    have n4 := fun l => nest (ver := ver) (S := S) (enc := GChunk.enc) (mk := GChunk.mkAt) (c := (ci + 6 + 5 * (xh.length : Int) + 4 * xl.length + 10 * xe.length + 2)) (ws := xc) (d := 11) (R := R) (i := i) (r := [.int .i64 ci, .int .i64 (ci + 1), .int .i64 (ci + 2), .int .i64 (ci + 3), .int .i64 (ci + 4), .int .i64 (ci + 5), .own true (rws GHead.enc (marks GHead.mkAt (ci + 6) xh.length)), .own true (rws GLast.enc (marks GLast.mkAt (ci + 6 + 5 * (xh.length : Int)) xl.length)), .own true (rws GEntry.enc (marks GEntry.mkAt (ci + 6 + 5 * (xh.length : Int) + 4 * xl.length) xe.length)), .int .i64 (ci + 6 + 5 * (xh.length : Int) + 4 * xl.length + 10 * xe.length), .int .i64 (ci + 6 + 5 * (xh.length : Int) + 4 * xl.length + 10 * xe.length + 1), .own true (rws GChunk.enc xc)]) l hi2 rfl
    simp only [List.set] at n4
    have w8 : ci + 6 + 5 * (xh.length : Int) + 4 * xl.length + 10 * xe.length + 2 + 6 * (xc.length : Int) = c' := by omega
    simp [-cellAt, tm, hlt, hg, hRl, hRg, hi2, blk_succ, heap_succ, put_succ, storeM, hat_modify, modify_modify', hlv, hs, get_set, set_set_same, rcall74, q1, n1, rcall75, q2, n2, rcall76, q3, n3, rcall77, q4, n4, w0, w1, w2, w3, w4, w5, w6, w7, w8, hset, hhs]
    exact ⟨i + 1, by omega, by omega, ⟨hc'.symm, by simp⟩, rfl⟩
  · have : i = ws.length := by omega
    subst this
    simp [tm, hg, blk_succ, hml, hat_modify, hlv]
theorem mkl_at {c : Int} {ws : List GSt} {i : Nat} (h : i < ws.length) (h' : i < (mkl c ws).length) : (mkl c ws)[i] = ws[i].mkAt (nxtM c (ws.take i)) := by
  have h1 : mkl c ws = mkl c (ws.take i) ++ mkl (nxtM c (ws.take i)) (ws.drop i) := by rw [← mkl_app, List.take_append_drop]
  have h2 : (mkl c ws)[i]? = some (ws[i].mkAt (nxtM c (ws.take i))) := by
    have hl : (mkl c (ws.take i)).length = i := by rw [mkl_len]; simp; omega
    rw [h1, List.getElem?_append_right (by omega), hl, Nat.sub_self, List.drop_eq_getElem_cons h]
    rfl
  rw [List.getElem?_eq_getElem h'] at h2
  exact Option.some.inj h2
set_option maxHeartbeats 32000000 in
theorem heldPgStateS (k : Nat) (ws : List GSt) (c : Int) (hn : ws.length ≤ 1048576) (hw : wsum GSt.wt ws ≤ 1048576) (hc : 1 ≤ c ∧ c ≤ 200000000) : call code (k + 3) 135 [.rd false (rws GSt.enc (mkl c ws)), .int .i64 c] [] = some ⟨.int .i64 (nxtM c ws), [], []⟩ := by
  refine call_run rfl fn135 rfl ?_
  have hl := mkl_len c ws
  simp [F135, hl]
  refine RunC_loop (fun i : Nat => ⟨tm 127 [(0, .rd false (rws GSt.enc (mkl c ws))), (1, .int .i64 (nxtM c (ws.take i))), (5, .int .i64 i)], [], []⟩)
    (fun i => i ≤ ws.length) (fun i => ws.length - i) 0 (Nat.zero_le _) (by simp; omega) (by simp [tm, nxtM]) fun i hi _ => ?_
  by_cases hlt : i < ws.length
  · have hs := idx_succ' hlt (by omega)
    have hnx := nxtM_succ (c := c) hlt
    have hb1 := nxtM_bound c (ws.take i)
    have hb2 := wsum_take (w := GSt.wt) ws i
    rw [wsum_drop hlt] at hb2
    have hwt : ws[i].hs.length + ws[i].ls.length + ws[i].es.length + ws[i].cs.length ≤ GSt.wt ws[i] := by unfold GSt.wt; omega
    have htl : (ws.take i).length = i := by simp; omega
    rw [htl] at hb1
    have hRl : (rws GSt.enc (mkl c ws)).length = ws.length := by rw [rws_len, hl]
    have hRg : ∀ h : i < (rws GSt.enc (mkl c ws)).length, (rws GSt.enc (mkl c ws))[i]'h = GSt.enc (ws[i].mkAt (nxtM c (ws.take i))) := fun h => by rw [rws_get, mkl_at hlt]
    generalize hc' : nxtM c (ws.take (i + 1)) = c' at *
    generalize nxtM c (ws.take i) = ci at *
    generalize rws GSt.enc (mkl c ws) = R at *
    generalize GSt.wt ws[i] = wi at *
    generalize ws[i] = x at *
    obtain ⟨p0, p1, se, st, te, ts, xh, xl, xe, fe, fs, xc⟩ := x
    have htot : (GSt.tot ⟨p0, p1, se, st, te, ts, xh, xl, xe, fe, fs, xc⟩ : Int) = 8 + 5 * xh.length + 4 * xl.length + 10 * xe.length + 6 * xc.length := by simp [GSt.tot]
    rw [htot] at hnx
    simp only at hwt
    simp only [GSt.enc, GSt.mkAt] at hRg
    have hi2 : i < R.length := by omega
    have w0 : IntKind.wrap .i64 (ci + 1) = ci + 1 := wrap64 ⟨by omega, by omega⟩
    have w1 : IntKind.wrap .i64 (ci + 1 + 1) = ci + 2 := by rw [wrap64 ⟨by omega, by omega⟩]; omega
    have w2 : IntKind.wrap .i64 (ci + 2 + 1) = ci + 3 := by rw [wrap64 ⟨by omega, by omega⟩]; omega
    have w3 : IntKind.wrap .i64 (ci + 3 + 1) = ci + 4 := by rw [wrap64 ⟨by omega, by omega⟩]; omega
    have w4 : IntKind.wrap .i64 (ci + 4 + 1) = ci + 5 := by rw [wrap64 ⟨by omega, by omega⟩]; omega
    have w5 : IntKind.wrap .i64 (ci + 5 + 1) = ci + 6 := by rw [wrap64 ⟨by omega, by omega⟩]; omega
    have w6 : IntKind.wrap .i64 (ci + 6 + 5 * (xh.length : Int) + 4 * xl.length + 10 * xe.length + 1) = ci + 6 + 5 * (xh.length : Int) + 4 * xl.length + 10 * xe.length + 1 := wrap64 ⟨by omega, by omega⟩
    have w7 : IntKind.wrap .i64 (ci + 6 + 5 * (xh.length : Int) + 4 * xl.length + 10 * xe.length + 1 + 1) = ci + 6 + 5 * (xh.length : Int) + 4 * xl.length + 10 * xe.length + 2 := by rw [wrap64 ⟨by omega, by omega⟩]; omega
    have w8 : ci + 6 + 5 * (xh.length : Int) + 4 * xl.length + 10 * xe.length + 2 + 6 * (xc.length : Int) = c' := by omega
    have q1 := fun k => heldHeadS k xh.length (ci + 6) (by omega) (by omega)
    have q2 := fun k => heldLastS k xl.length (ci + 6 + 5 * (xh.length : Int)) (by omega) (by omega)
    have q3 := fun k => heldEntryS k xe.length (ci + 6 + 5 * (xh.length : Int) + 4 * xl.length) (by omega) (by omega)
    have q4 := fun k => heldChunkS k xc.length (ci + 6 + 5 * (xh.length : Int) + 4 * xl.length + 10 * xe.length + 2) (by omega) (by omega)
    have d1 : decide (ci + 6 + 5 * (xh.length : Int) < 0) = false := by simp; omega
    have d2 : decide (ci + 6 + 5 * (xh.length : Int) + 4 * xl.length < 0) = false := by simp; omega
    have d3 : decide (ci + 6 + 5 * (xh.length : Int) + 4 * xl.length + 10 * xe.length < 0) = false := by simp; omega
    have d4 : decide (c' < 0) = false := by simp; omega
    simp [tm, hlt, hRl, hRg, hi2, hs, rcall78, rcall79, rcall80, rcall81, q1, q2, q3, q4, d1, d2, d3, d4, w0, w1, w2, w3, w4, w5, w6, w7, w8]
    exact ⟨i + 1, by omega, by omega, hc'.symm, by simp⟩
  · have : i = ws.length := by omega
    subst this
    simp [tm, hl]
end Go.Ae.GA.B
