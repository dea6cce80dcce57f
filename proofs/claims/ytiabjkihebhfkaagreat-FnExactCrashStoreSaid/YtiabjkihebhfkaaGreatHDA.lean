/- Lists of states, each of which owns four rows: compared, copied, sized. -/
import Derived.Test.YtiabjkihebhfkaaGreatHCB
import Derived.Test.YtiabjkihebhfkaaGreatAeL6
namespace Go.Ae.GA.B
set_option linter.unusedSimpArgs false
set_option linter.unusedVariables false
set_option maxRecDepth 10000
structure GSt where
  p0 : Int
  p1 : Int
  se : Int
  st : Int
  te : Int
  ts : Int
  hs : List GHead
  ls : List GLast
  es : List GEntry
  fe : Int
  fs : Int
  cs : List GChunk
namespace GSt
/-- As it is read. -/
def enc (x : GSt) : List AV := [.int .i64 x.p0, .int .i64 x.p1, .int .i64 x.se, .int .i64 x.st, .int .i64 x.te, .int .i64 x.ts, .rd true (rws GHead.enc x.hs), .rd true (rws GLast.enc x.ls), .rd true (rws GEntry.enc x.es), .int .i64 x.fe, .int .i64 x.fs, .rd true (rws GChunk.enc x.cs)]
/-- As a row of one's own holds it. -/
def enco (x : GSt) : List AV := [.int .i64 x.p0, .int .i64 x.p1, .int .i64 x.se, .int .i64 x.st, .int .i64 x.te, .int .i64 x.ts, .own true (rws GHead.enc x.hs), .own true (rws GLast.enc x.ls), .own true (rws GEntry.enc x.es), .int .i64 x.fe, .int .i64 x.fs, .own true (rws GChunk.enc x.cs)]
def zero : GSt := ⟨0, 0, 0, 0, 0, 0, [], [], [], 0, 0, []⟩
def wt (x : GSt) : Nat := (x.hs.length + wsum GHead.wt x.hs) + x.ls.length + (x.es.length + wsum GEntry.wt x.es) + (x.cs.length + wsum GChunk.wt x.cs)
def ok (x : GSt) : Prop := x.hs.length ≤ 140737488351232 ∧ (∀ y ∈ x.hs, y.ok) ∧ x.ls.length ≤ 140737488351232 ∧ x.es.length ≤ 140737488351232 ∧ (∀ y ∈ x.es, y.ok) ∧ x.cs.length ≤ 140737488351232 ∧ (∀ y ∈ x.cs, y.ok)
/-- Few of each. -/
def few (x : GSt) : Prop := x.hs.length ≤ 1048576 ∧ x.ls.length ≤ 1048576 ∧ x.es.length ≤ 1048576 ∧ x.cs.length ≤ 1048576
end GSt
theorem flat_rws {α : Type} {enc : α → List AV} (h : ∀ x, ∀ v ∈ enc x, v.scal = true) (l : List α) : ∀ r ∈ rws enc l, ∀ v ∈ r, v.scal = true := fun r hr v hv => by
  simp only [rws, List.mem_map] at hr
  obtain ⟨z, _, rfl⟩ := hr
  exact h z v hv
theorem deep_own (l : List GSt) : AV.deepRows (rws GSt.enco l) = rws GSt.enc l := by
  rw [deepRows_map]
  simp only [rws, List.map_map]
  refine List.map_congr_left fun x _ => ?_
  have h1 : AV.deepRows (rws GHead.enc x.hs) = rws GHead.enc x.hs := deepRows_flat (flat_rws (enc := GHead.enc) (fun x v hv => by simp [GHead.enc] at hv; rcases hv with rfl | rfl | rfl | rfl | rfl <;> rfl) _)
  have h2 : AV.deepRows (rws GLast.enc x.ls) = rws GLast.enc x.ls := deepRows_flat (flat_rws (enc := GLast.enc) (fun x v hv => by simp [GLast.enc] at hv; rcases hv with rfl | rfl | rfl | rfl <;> rfl) _)
  have h3 : AV.deepRows (rws GEntry.enc x.es) = rws GEntry.enc x.es := deepRows_flat (flat_rws (enc := GEntry.enc) (fun x v hv => by simp [GEntry.enc] at hv; rcases hv with rfl | rfl | rfl | rfl | rfl | rfl | rfl | rfl | rfl | rfl <;> rfl) _)
  have h4 : AV.deepRows (rws GChunk.enc x.cs) = rws GChunk.enc x.cs := deepRows_flat (flat_rws (enc := GChunk.enc) (fun x v hv => by simp [GChunk.enc] at hv; rcases hv with rfl | rfl | rfl | rfl | rfl | rfl <;> rfl) _)
  simp only [rws] at h1 h2 h3 h4
  simp [GSt.enco, GSt.enc, AV.deep, rws, h1, h2, h3, h4]
theorem cpy_at {α : Type} {z : α} {ws : List α} {i : Nat} (h : i < ws.length) (h' : i < (cpy z ws i).length) : (cpy z ws i)[i] = z := by
  have h2 : (cpy z ws i)[i]? = some z := by
    rw [show cpy z ws i = ws.take i ++ List.replicate (ws.length - i) z from rfl, List.getElem?_append_right (by simp; omega)]
    simp [List.getElem?_replicate]; omega
  rw [List.getElem?_eq_getElem h'] at h2
  exact Option.some.inj h2
theorem eqPgStateS (k : Nat) (ws : List GSt) (hn : ws.length ≤ 1048576000) (hs : ∀ x ∈ ws, x.few) : call code (k + 5) 133 [.rd false (rws GSt.enc ws), .rd false (rws GSt.enc ws)] [] = some ⟨.bool true, [], []⟩ := by
  refine call_run rfl fn133 rfl ?_
  simp [F133]
  refine RunC_loop (fun i : Nat => ⟨tm 27 [(0, .rd false (rws GSt.enc ws)), (1, .rd false (rws GSt.enc ws)), (5, .int .i64 i)], [], []⟩)
    (fun i => i ≤ ws.length) (fun i => ws.length - i) 0 (Nat.zero_le _) (by simp; omega) (by simp [tm]) fun i hi _ => ?_
  by_cases hlt : i < ws.length
  · have hi' := idx_succ' hlt (by omega)
    obtain ⟨f1, f2, f3, f4⟩ := hs _ (List.getElem_mem hlt)
    have he := fun k => eqPgState k ws[i].p0 ws[i].p1 ws[i].se ws[i].st ws[i].te ws[i].ts ws[i].hs ws[i].ls ws[i].es ws[i].fe ws[i].fs ws[i].cs (by omega) (by omega) (by omega) (by omega)
    simp [tm, hlt, hi', GSt.enc, rcall16, he]
    exact ⟨i + 1, by omega, by omega, by simp⟩
  · have : i = ws.length := by omega
    subst this
    simp [tm]
set_option maxHeartbeats 8000000 in
theorem toPgStateS (k : Nat) (ws : List GSt) (hn : ws.length ≤ 1048576) (hs : ∀ x ∈ ws, x.few) : call code (k + 5) 130 [.rd false (rws GSt.enc ws)] [] = some ⟨.sl 0 0 0 [] 0 ws.length, [⟨0, 12, false, false, rws GSt.enco ws⟩], []⟩ := by
  refine call_run rfl fn130 rfl ?_
  simp [F130, zeroRow]
  refine ⟨⟨by omega, by omega⟩, ?_⟩
  refine RunC_loop (fun i : Nat => ⟨tm 23 [(0, .rd false (rws GSt.enc ws)), (3, .sl 0 66048 0 [] 0 ws.length), (4, .int .i64 i)], [(0, some ⟨0, 12, false, false, []⟩), (66048, some ⟨0, 12, false, false, rws GSt.enco (cpy GSt.zero ws i)⟩)], []⟩)
    (fun i => i ≤ ws.length) (fun i => ws.length - i) 0 (Nat.zero_le _) (by simp; omega) (by simp [tm, rws_cpy, GSt.enco, GSt.zero, (rfl : rws GHead.enc [] = []), (rfl : rws GLast.enc [] = []), (rfl : rws GEntry.enc [] = []), (rfl : rws GChunk.enc [] = [])]) fun i hi _ => ?_
  have hcl := cpy_len (z := GSt.zero) hi
  by_cases hlt : i < ws.length
  · have hst : (rws GSt.enco (cpy GSt.zero ws i)).set i (GSt.enco ws[i]) = rws GSt.enco (cpy GSt.zero ws (i + 1)) := by rw [rws_set, cpy_set hlt]
    have hi' := idx_succ' hlt (by omega)
    have hz : ∀ h : i < (rws GSt.enco (cpy GSt.zero ws i)).length, (rws GSt.enco (cpy GSt.zero ws i))[i]'h = [.int .i64 0, .int .i64 0, .int .i64 0, .int .i64 0, .int .i64 0, .int .i64 0, .own true [], .own true [], .own true [], .int .i64 0, .int .i64 0, .own true []] := fun h => by
      rw [rws_get, cpy_at hlt]; rfl
    obtain ⟨f1, f2, f3, f4⟩ := hs _ (List.getElem_mem hlt)
    have he := fun k => toPgState k ws[i].p0 ws[i].p1 ws[i].se ws[i].st ws[i].te ws[i].ts ws[i].hs ws[i].ls ws[i].es ws[i].fe ws[i].fs ws[i].cs (by omega) (by omega) (by omega) (by omega)
    have hrl : (rws GSt.enco (cpy GSt.zero ws i)).length = ws.length := by rw [rws_len, hcl]
    have l1 := rws_len (enc := GHead.enc) ws[i].hs
    have l2 := rws_len (enc := GLast.enc) ws[i].ls
    have l3 := rws_len (enc := GEntry.enc) ws[i].es
    have l4 := rws_len (enc := GChunk.enc) ws[i].cs
    simp only [GSt.enco] at hst
    generalize hR' : rws GSt.enco (cpy GSt.zero ws (i + 1)) = R' at *
    generalize rws GSt.enco (cpy GSt.zero ws i) = R at *
    simp [tm, hlt, hrl, hst, hi', hz, GSt.enc, rcall14, he, storeM, moveCells, moveCell, fillOk, AV.own0, AV.ownF, l1, l2, l3, l4]
    exact ⟨i + 1, by omega, by omega, by simp, by rw [hR']⟩
  · have : i = ws.length := by omega
    subst this
    simp [tm, cpy_all]
set_option maxHeartbeats 8000000 in
theorem szPgStateS (k : Nat) (l : Int) (ws : List GSt) (hl : 0 ≤ l ∧ l ≤ 1048576) (hn : ws.length ≤ 140737488351232) (hs : ∀ x ∈ ws, x.ok) : call code (k + 4) 127 [.rd false (rws GSt.enc ws), .int .i64 l] [] = some ⟨.int .i64 (szV l (ws.length + wsum GSt.wt ws)), [], []⟩ := by
  refine call_run rfl fn127 rfl ?_
  have e1 : IntKind.wrap .i64 (l - (ws.length : Int)) = l - ws.length := wrap64 ⟨by omega, by omega⟩
  cases hd : decide (l - (ws.length : Int) < 0)
  · have hd' := of_decide_eq_false hd
    rw [← szV_step (by omega)]
    simp [F127, e1, hd]
    refine RunC_loop (fun q : Nat × Int => ⟨tm 27 [(0, .rd false (rws GSt.enc ws)), (1, .int .i64 q.2), (5, .int .i64 q.1)], [], []⟩)
      (fun q => q.1 ≤ ws.length ∧ 0 ≤ q.2 ∧ q.2 ≤ l ∧ szV q.2 (wsum GSt.wt (ws.drop q.1)) = szV (l - ws.length) (wsum GSt.wt ws)) (fun q => ws.length - q.1) (0, l - ws.length) ⟨Nat.zero_le _, by simp; omega, by simp; omega, by simp⟩ (by simp; omega) (by simp [tm]) fun q hq _ => ?_
    obtain ⟨i, c⟩ := q
    obtain ⟨h1, h2, h3, h4⟩ := hq
    simp only at h1 h2 h3 h4
    by_cases hlt : i < ws.length
    · obtain ⟨z1, z2, z3, z5, z6, z7, z8⟩ := hs ws[i] (List.getElem_mem hlt)
      have hi := idx_succ' hlt (by omega)
      rw [wsum_drop hlt] at h4
      have hp := fun k => szPgState k c ws[i].p0 ws[i].p1 ws[i].se ws[i].st ws[i].te ws[i].ts ws[i].hs ws[i].ls ws[i].es ws[i].fe ws[i].fs ws[i].cs ⟨h2, by omega⟩ z1 z2 z3 z5 z6 z7 z8
      have hwt : (ws[i].hs.length + wsum GHead.wt ws[i].hs) + ws[i].ls.length + (ws[i].es.length + wsum GEntry.wt ws[i].es) + (ws[i].cs.length + wsum GChunk.wt ws[i].cs) = GSt.wt ws[i] := rfl
      rw [hwt] at hp
      generalize GSt.wt ws[i] = wi at *
      cases hd2 : decide (szV c wi < 0)
      · obtain ⟨a1, a2⟩ := szV_pos hd2 h2
        rw [a2] at hp hd2
        rw [← szV_step a1] at h4
        simp [tm, hlt, hi, GSt.enc, rcall12, hp, hd2]
        exact ⟨i + 1, _, ⟨by omega, by omega, by omega, h4⟩, by omega, rfl, by simp⟩
      · obtain ⟨a1, a2⟩ := szV_neg hd2 h2
        rw [a2] at hp
        rw [szV_stop a1] at h4
        simp [tm, hlt, GSt.enc, rcall12, hp, ← h4]
    · have : i = ws.length := by omega
      subst this
      rw [wsum_all, szV_zero h2] at h4
      simp [tm, h4]
  · rw [szV_stop (by have := of_decide_eq_true hd; omega)]
    simp [F127, e1, hd]
end Go.Ae.GA.B
