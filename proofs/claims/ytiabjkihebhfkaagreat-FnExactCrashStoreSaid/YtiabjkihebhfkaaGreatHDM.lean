/- Marks in rows that a row owns. -/
import Derived.Test.YtiabjkihebhfkaaGreatHDA
namespace Go.Ae.GA.B
set_option linter.unusedSimpArgs false
set_option linter.unusedVariables false
set_option maxRecDepth 10000
theorem cellAt_in {rows : List (List AV)} {i d : Nat} {x : AV} (h : cellAt rows i d = some x) (v : AV) : cellAt (setCell rows i d v) i d = some v := by
  unfold cellAt at *
  cases hr : rows[i]? with
  | none => rw [hr] at h; cases h
  | some r =>
    rw [hr] at h
    have hd : d < r.length := (List.getElem?_eq_some_iff.1 h).1
    simp [setCell, List.getElem?_modify, hr, hd]
theorem setCell_set (rows : List (List AV)) (i d : Nat) (v u : AV) : setCell (setCell rows i d v) i d u = setCell rows i d u := by
  unfold setCell
  rw [List.modify_modify_eq]
  congr 1
  funext r
  simp
theorem setCell_same {rows : List (List AV)} {i d : Nat} {x : AV} (h : cellAt rows i d = some x) : setCell rows i d x = rows := by
  unfold cellAt at h
  apply List.ext_getElem? fun j => ?_
  by_cases hj : i = j
  · subst hj
    cases hr : rows[i]? with
    | none => rw [hr] at h; cases h
    | some r =>
      rw [hr] at h
      obtain ⟨hd, he⟩ := List.getElem?_eq_some_iff.1 h
      rw [← he]
      simp [setCell, List.getElem?_modify, hr]
  · simp [setCell, List.getElem?_modify, hj]
/-- The block when j of a row's own are marked. -/
def nblk {α : Type} (ver : Nat) (rows : List (List AV)) (i d : Nat) (enc : α → List AV) (mk : Int → Nat → α) (c : Int) (ws : List α) (j : Nat) : Blk := ⟨ver, 12, false, false, setCell rows i d (.own true (rws enc (mix (mk c) ws j)))⟩
theorem nblk_zero {α : Type} {ver : Nat} {rows : List (List AV)} {i d : Nat} {enc : α → List AV} {mk : Int → Nat → α} {c : Int} {ws : List α} (h : cellAt rows i d = some (.own true (rws enc ws))) : nblk ver rows i d enc mk c ws 0 = ⟨ver, 12, false, false, rows⟩ := by
  unfold nblk
  rw [mix_zero, setCell_same h]
set_option maxHeartbeats 8000000 in
theorem markHeadN (k lv : Nat) (E : List Heap) (S ver i0 : Nat) (rows : List (List AV)) (ws : List GHead) (c : Int) (hn : ws.length ≤ 1100000) (hc : 1 ≤ c ∧ c ≤ 800000000) (hlv : lv < E.length) (hrow : cellAt rows i0 6 = some (.own true (rws GHead.enc ws))) (hl : (hat E lv).get S = some (some ⟨ver, 12, false, false, rows⟩)) :
    call code (k + 2) 74 [.sl (lv + 1) S ver [(i0, 6)] 0 ws.length, .int .i64 c] E = some ⟨.int .i64 (c + 5 * ws.length), [], E.modify lv fun h => hp h S (nblk ver rows i0 6 GHead.enc GHead.mkAt c ws) ws.length⟩ := by
  refine call_run rfl fn74 rfl ?_
  simp [F74]
  refine RunC_loop (fun i : Nat => ⟨tm 51 [(0, .sl (lv + 1) S ver [(i0, 6)] 0 ws.length), (1, .int .i64 (c + 5 * i)), (5, .int .i64 i)], [], E.modify lv fun h => hp h S (nblk ver rows i0 6 GHead.enc GHead.mkAt c ws) i⟩)
    (fun i => i ≤ ws.length) (fun i => ws.length - i) 0 (Nat.zero_le _) (by simp; omega) (by simp [tm, hp_zero, modify_id']) fun i hi _ => ?_
  have hg : (hp (hat E lv) S (nblk ver rows i0 6 GHead.enc GHead.mkAt c ws) i).get S = some (some ⟨ver, 12, false, false, setCell rows i0 6 (.own true (rws GHead.enc (mix (GHead.mkAt c) ws i)))⟩) := hp_get (by rw [nblk_zero hrow]; exact hl) i
  have hin := fun v => cellAt_in hrow v
  have hcc := fun v u => setCell_set rows i0 6 v u
  have hml := mix_len (f := GHead.mkAt c) hi
  by_cases hlt : i < ws.length
  · have hs := idx_succ' hlt (by omega)
    have hset : (rws GHead.enc (mix (GHead.mkAt c) ws i)).set i (GHead.enc (GHead.mkAt c i)) = rws GHead.enc (mix (GHead.mkAt c) ws (i + 1)) := by rw [rws_set, mix_set hlt]
    have hhs : ∀ h : Heap, (hp h S (nblk ver rows i0 6 GHead.enc GHead.mkAt c ws) i).set S (some ⟨ver, 12, false, false, setCell rows i0 6 (.own true (rws GHead.enc (mix (GHead.mkAt c) ws (i + 1))))⟩) = hp h S (nblk ver rows i0 6 GHead.enc GHead.mkAt c ws) (i + 1) := fun h => hp_set i
    have p0 : IntKind.wrap .i64 (c + 5 * (i : Int) + 1) = c + 5 * (i : Int) + 1 := by rw [wrap64 ⟨by omega, by omega⟩] <;> omega
    have p1 : IntKind.wrap .i64 (c + 5 * (i : Int) + 1 + 1) = c + 5 * (i : Int) + 2 := by rw [wrap64 ⟨by omega, by omega⟩] <;> omega
    have p2 : IntKind.wrap .i64 (c + 5 * (i : Int) + 2 + 1) = c + 5 * (i : Int) + 3 := by rw [wrap64 ⟨by omega, by omega⟩] <;> omega
    have p3 : IntKind.wrap .i64 (c + 5 * (i : Int) + 3 + 1) = c + 5 * (i : Int) + 4 := by rw [wrap64 ⟨by omega, by omega⟩] <;> omega
    have p4 : IntKind.wrap .i64 (c + 5 * (i : Int) + 4 + 1) = c + 5 * ((i + 1 : Nat) : Int) := by rw [wrap64 ⟨by omega, by omega⟩] <;> omega
    have m0 := fun k => markTextI k (c + 5 * (i : Int)) (by omega)
    simp only [GHead.enc, GHead.mkAt] at hset
    simp [-cellAt, tm, hlt, hg, hin, hcc, blk_succ, heap_succ, put_succ, storeM, hat_modify, modify_modify', hlv, hml, hs, get_set, set_set_same, GHead.enc, hset, hhs, p0, p1, p2, p3, p4, m0, rcall155]
    exact ⟨i + 1, by omega, by omega, by simp⟩
  · have : i = ws.length := by omega
    subst this
    simp [-cellAt, tm, hg, hin, blk_succ, hml, hat_modify, hlv]
set_option maxHeartbeats 8000000 in
theorem markLastN (k lv : Nat) (E : List Heap) (S ver i0 : Nat) (rows : List (List AV)) (ws : List GLast) (c : Int) (hn : ws.length ≤ 1100000) (hc : 1 ≤ c ∧ c ≤ 800000000) (hlv : lv < E.length) (hrow : cellAt rows i0 7 = some (.own true (rws GLast.enc ws))) (hl : (hat E lv).get S = some (some ⟨ver, 12, false, false, rows⟩)) :
    call code (k + 1) 75 [.sl (lv + 1) S ver [(i0, 7)] 0 ws.length, .int .i64 c] E = some ⟨.int .i64 (c + 4 * ws.length), [], E.modify lv fun h => hp h S (nblk ver rows i0 7 GLast.enc GLast.mkAt c ws) ws.length⟩ := by
  refine call_run rfl fn75 rfl ?_
  simp [F75]
  refine RunC_loop (fun i : Nat => ⟨tm 43 [(0, .sl (lv + 1) S ver [(i0, 7)] 0 ws.length), (1, .int .i64 (c + 4 * i)), (5, .int .i64 i)], [], E.modify lv fun h => hp h S (nblk ver rows i0 7 GLast.enc GLast.mkAt c ws) i⟩)
    (fun i => i ≤ ws.length) (fun i => ws.length - i) 0 (Nat.zero_le _) (by simp; omega) (by simp [tm, hp_zero, modify_id']) fun i hi _ => ?_
  have hg : (hp (hat E lv) S (nblk ver rows i0 7 GLast.enc GLast.mkAt c ws) i).get S = some (some ⟨ver, 12, false, false, setCell rows i0 7 (.own true (rws GLast.enc (mix (GLast.mkAt c) ws i)))⟩) := hp_get (by rw [nblk_zero hrow]; exact hl) i
  have hin := fun v => cellAt_in hrow v
  have hcc := fun v u => setCell_set rows i0 7 v u
  have hml := mix_len (f := GLast.mkAt c) hi
  by_cases hlt : i < ws.length
  · have hs := idx_succ' hlt (by omega)
    have hset : (rws GLast.enc (mix (GLast.mkAt c) ws i)).set i (GLast.enc (GLast.mkAt c i)) = rws GLast.enc (mix (GLast.mkAt c) ws (i + 1)) := by rw [rws_set, mix_set hlt]
    have hhs : ∀ h : Heap, (hp h S (nblk ver rows i0 7 GLast.enc GLast.mkAt c ws) i).set S (some ⟨ver, 12, false, false, setCell rows i0 7 (.own true (rws GLast.enc (mix (GLast.mkAt c) ws (i + 1))))⟩) = hp h S (nblk ver rows i0 7 GLast.enc GLast.mkAt c ws) (i + 1) := fun h => hp_set i
    have p0 : IntKind.wrap .i64 (c + 4 * (i : Int) + 1) = c + 4 * (i : Int) + 1 := by rw [wrap64 ⟨by omega, by omega⟩] <;> omega
    have p1 : IntKind.wrap .i64 (c + 4 * (i : Int) + 1 + 1) = c + 4 * (i : Int) + 2 := by rw [wrap64 ⟨by omega, by omega⟩] <;> omega
    have p2 : IntKind.wrap .i64 (c + 4 * (i : Int) + 2 + 1) = c + 4 * (i : Int) + 3 := by rw [wrap64 ⟨by omega, by omega⟩] <;> omega
    have p3 : IntKind.wrap .i64 (c + 4 * (i : Int) + 3 + 1) = c + 4 * ((i + 1 : Nat) : Int) := by rw [wrap64 ⟨by omega, by omega⟩] <;> omega
    simp only [GLast.enc, GLast.mkAt] at hset
    simp [-cellAt, tm, hlt, hg, hin, hcc, blk_succ, heap_succ, put_succ, storeM, hat_modify, modify_modify', hlv, hml, hs, get_set, set_set_same, GLast.enc, hset, hhs, p0, p1, p2, p3]
    exact ⟨i + 1, by omega, by omega, by simp⟩
  · have : i = ws.length := by omega
    subst this
    simp [-cellAt, tm, hg, hin, blk_succ, hml, hat_modify, hlv]
set_option maxHeartbeats 8000000 in
theorem markEntryN (k lv : Nat) (E : List Heap) (S ver i0 : Nat) (rows : List (List AV)) (ws : List GEntry) (c : Int) (hn : ws.length ≤ 1100000) (hc : 1 ≤ c ∧ c ≤ 800000000) (hlv : lv < E.length) (hrow : cellAt rows i0 8 = some (.own true (rws GEntry.enc ws))) (hl : (hat E lv).get S = some (some ⟨ver, 12, false, false, rows⟩)) :
    call code (k + 2) 76 [.sl (lv + 1) S ver [(i0, 8)] 0 ws.length, .int .i64 c] E = some ⟨.int .i64 (c + 10 * ws.length), [], E.modify lv fun h => hp h S (nblk ver rows i0 8 GEntry.enc GEntry.mkAt c ws) ws.length⟩ := by
  refine call_run rfl fn76 rfl ?_
  simp [F76]
  refine RunC_loop (fun i : Nat => ⟨tm 92 [(0, .sl (lv + 1) S ver [(i0, 8)] 0 ws.length), (1, .int .i64 (c + 10 * i)), (5, .int .i64 i)], [], E.modify lv fun h => hp h S (nblk ver rows i0 8 GEntry.enc GEntry.mkAt c ws) i⟩)
    (fun i => i ≤ ws.length) (fun i => ws.length - i) 0 (Nat.zero_le _) (by simp; omega) (by simp [tm, hp_zero, modify_id']) fun i hi _ => ?_
  have hg : (hp (hat E lv) S (nblk ver rows i0 8 GEntry.enc GEntry.mkAt c ws) i).get S = some (some ⟨ver, 12, false, false, setCell rows i0 8 (.own true (rws GEntry.enc (mix (GEntry.mkAt c) ws i)))⟩) := hp_get (by rw [nblk_zero hrow]; exact hl) i
  have hin := fun v => cellAt_in hrow v
  have hcc := fun v u => setCell_set rows i0 8 v u
  have hml := mix_len (f := GEntry.mkAt c) hi
  by_cases hlt : i < ws.length
  · have hs := idx_succ' hlt (by omega)
    have hset : (rws GEntry.enc (mix (GEntry.mkAt c) ws i)).set i (GEntry.enc (GEntry.mkAt c i)) = rws GEntry.enc (mix (GEntry.mkAt c) ws (i + 1)) := by rw [rws_set, mix_set hlt]
    have hhs : ∀ h : Heap, (hp h S (nblk ver rows i0 8 GEntry.enc GEntry.mkAt c ws) i).set S (some ⟨ver, 12, false, false, setCell rows i0 8 (.own true (rws GEntry.enc (mix (GEntry.mkAt c) ws (i + 1))))⟩) = hp h S (nblk ver rows i0 8 GEntry.enc GEntry.mkAt c ws) (i + 1) := fun h => hp_set i
    have p0 : IntKind.wrap .i64 (c + 10 * (i : Int) + 1) = c + 10 * (i : Int) + 1 := by rw [wrap64 ⟨by omega, by omega⟩] <;> omega
    have p1 : IntKind.wrap .i64 (c + 10 * (i : Int) + 1 + 1) = c + 10 * (i : Int) + 2 := by rw [wrap64 ⟨by omega, by omega⟩] <;> omega
    have p2 : IntKind.wrap .i64 (c + 10 * (i : Int) + 2 + 1) = c + 10 * (i : Int) + 3 := by rw [wrap64 ⟨by omega, by omega⟩] <;> omega
    have p3 : IntKind.wrap .i64 (c + 10 * (i : Int) + 3 + 1) = c + 10 * (i : Int) + 4 := by rw [wrap64 ⟨by omega, by omega⟩] <;> omega
    have p4 : IntKind.wrap .i64 (c + 10 * (i : Int) + 4 + 1) = c + 10 * (i : Int) + 5 := by rw [wrap64 ⟨by omega, by omega⟩] <;> omega
    have p5 : IntKind.wrap .i64 (c + 10 * (i : Int) + 5 + 1) = c + 10 * (i : Int) + 6 := by rw [wrap64 ⟨by omega, by omega⟩] <;> omega
    have p6 : IntKind.wrap .i64 (c + 10 * (i : Int) + 6 + 1) = c + 10 * (i : Int) + 7 := by rw [wrap64 ⟨by omega, by omega⟩] <;> omega
    have p7 : IntKind.wrap .i64 (c + 10 * (i : Int) + 7 + 1) = c + 10 * (i : Int) + 8 := by rw [wrap64 ⟨by omega, by omega⟩] <;> omega
    have p8 : IntKind.wrap .i64 (c + 10 * (i : Int) + 8 + 1) = c + 10 * (i : Int) + 9 := by rw [wrap64 ⟨by omega, by omega⟩] <;> omega
    have p9 : IntKind.wrap .i64 (c + 10 * (i : Int) + 9 + 1) = c + 10 * ((i + 1 : Nat) : Int) := by rw [wrap64 ⟨by omega, by omega⟩] <;> omega
    have m4 := fun k => markTextI k (c + 10 * (i : Int) + 4) (by omega)
    have m5 : (c + 10 * (i : Int) + 5).tmod 3 = (c + 10 * (i : Int) + 5) % 3 := Int.tmod_eq_emod_of_nonneg (by omega)
    simp only [GEntry.enc, GEntry.mkAt] at hset
    simp [-cellAt, tm, hlt, hg, hin, hcc, blk_succ, heap_succ, put_succ, storeM, hat_modify, modify_modify', hlv, hml, hs, get_set, set_set_same, GEntry.enc, hset, hhs, p0, p1, p2, p3, p4, p5, p6, p7, p8, p9, m4, m5, rcall155]
    exact ⟨i + 1, by omega, by omega, by simp⟩
  · have : i = ws.length := by omega
    subst this
    simp [-cellAt, tm, hg, hin, blk_succ, hml, hat_modify, hlv]
set_option maxHeartbeats 8000000 in
theorem markChunkN (k lv : Nat) (E : List Heap) (S ver i0 : Nat) (rows : List (List AV)) (ws : List GChunk) (c : Int) (hn : ws.length ≤ 1100000) (hc : 1 ≤ c ∧ c ≤ 800000000) (hlv : lv < E.length) (hrow : cellAt rows i0 11 = some (.own true (rws GChunk.enc ws))) (hl : (hat E lv).get S = some (some ⟨ver, 12, false, false, rows⟩)) :
    call code (k + 2) 77 [.sl (lv + 1) S ver [(i0, 11)] 0 ws.length, .int .i64 c] E = some ⟨.int .i64 (c + 6 * ws.length), [], E.modify lv fun h => hp h S (nblk ver rows i0 11 GChunk.enc GChunk.mkAt c ws) ws.length⟩ := by
  refine call_run rfl fn77 rfl ?_
  simp [F77]
  refine RunC_loop (fun i : Nat => ⟨tm 59 [(0, .sl (lv + 1) S ver [(i0, 11)] 0 ws.length), (1, .int .i64 (c + 6 * i)), (5, .int .i64 i)], [], E.modify lv fun h => hp h S (nblk ver rows i0 11 GChunk.enc GChunk.mkAt c ws) i⟩)
    (fun i => i ≤ ws.length) (fun i => ws.length - i) 0 (Nat.zero_le _) (by simp; omega) (by simp [tm, hp_zero, modify_id']) fun i hi _ => ?_
  have hg : (hp (hat E lv) S (nblk ver rows i0 11 GChunk.enc GChunk.mkAt c ws) i).get S = some (some ⟨ver, 12, false, false, setCell rows i0 11 (.own true (rws GChunk.enc (mix (GChunk.mkAt c) ws i)))⟩) := hp_get (by rw [nblk_zero hrow]; exact hl) i
  have hin := fun v => cellAt_in hrow v
  have hcc := fun v u => setCell_set rows i0 11 v u
  have hml := mix_len (f := GChunk.mkAt c) hi
  by_cases hlt : i < ws.length
  · have hs := idx_succ' hlt (by omega)
    have hset : (rws GChunk.enc (mix (GChunk.mkAt c) ws i)).set i (GChunk.enc (GChunk.mkAt c i)) = rws GChunk.enc (mix (GChunk.mkAt c) ws (i + 1)) := by rw [rws_set, mix_set hlt]
    have hhs : ∀ h : Heap, (hp h S (nblk ver rows i0 11 GChunk.enc GChunk.mkAt c ws) i).set S (some ⟨ver, 12, false, false, setCell rows i0 11 (.own true (rws GChunk.enc (mix (GChunk.mkAt c) ws (i + 1))))⟩) = hp h S (nblk ver rows i0 11 GChunk.enc GChunk.mkAt c ws) (i + 1) := fun h => hp_set i
    have p0 : IntKind.wrap .i64 (c + 6 * (i : Int) + 1) = c + 6 * (i : Int) + 1 := by rw [wrap64 ⟨by omega, by omega⟩] <;> omega
    have p1 : IntKind.wrap .i64 (c + 6 * (i : Int) + 1 + 1) = c + 6 * (i : Int) + 2 := by rw [wrap64 ⟨by omega, by omega⟩] <;> omega
    have p2 : IntKind.wrap .i64 (c + 6 * (i : Int) + 2 + 1) = c + 6 * (i : Int) + 3 := by rw [wrap64 ⟨by omega, by omega⟩] <;> omega
    have p3 : IntKind.wrap .i64 (c + 6 * (i : Int) + 3 + 1) = c + 6 * (i : Int) + 4 := by rw [wrap64 ⟨by omega, by omega⟩] <;> omega
    have p4 : IntKind.wrap .i64 (c + 6 * (i : Int) + 4 + 1) = c + 6 * (i : Int) + 5 := by rw [wrap64 ⟨by omega, by omega⟩] <;> omega
    have p5 : IntKind.wrap .i64 (c + 6 * (i : Int) + 5 + 1) = c + 6 * ((i + 1 : Nat) : Int) := by rw [wrap64 ⟨by omega, by omega⟩] <;> omega
    have m0 := fun k => markTextI k (c + 6 * (i : Int)) (by omega)
    have m5 := fun k => markTextI k (c + 6 * (i : Int) + 5) (by omega)
    simp only [GChunk.enc, GChunk.mkAt] at hset
    simp [-cellAt, tm, hlt, hg, hin, hcc, blk_succ, heap_succ, put_succ, storeM, hat_modify, modify_modify', hlv, hml, hs, get_set, set_set_same, GChunk.enc, hset, hhs, p0, p1, p2, p3, p4, p5, m0, m5, rcall155]
    exact ⟨i + 1, by omega, by omega, by simp⟩
  · have : i = ws.length := by omega
    subst this
    simp [-cellAt, tm, hg, hin, blk_succ, hml, hat_modify, hlv]
end Go.Ae.GA.B
