/- Lists of states, cloned. -/
import Derived.Test.YtiabjkihebhfkaaGreatHDA
import Derived.Test.YtiabjkihebhfkaaGreatHCR
namespace Go.Ae.GA.B
set_option linter.unusedSimpArgs false
set_option linter.unusedVariables false
set_option maxRecDepth 10000
set_option maxHeartbeats 32000000 in
theorem cloneStates (k : Nat) (ws : List GSt) (hn : ws.length ≤ 1048576) (hs : ∀ x ∈ ws, x.few) : call code (k + 3) 132 [.rd false (rws GSt.enc ws)] [] = some ⟨.sl 0 0 0 [] 0 ws.length, [⟨0, 12, false, false, rws GSt.enco ws⟩], []⟩ := by
  refine call_run rfl fn132 rfl ?_
  simp [F132]
  refine RunC_loop (fun i : Nat => ⟨tm 19 [(3, .sl 0 65536 0 [] 0 i), (6, .rd false (rws GSt.enc ws)), (7, .int .i64 ws.length), (8, .int .i64 i)], [(0, some ⟨0, 12, false, false, []⟩), (65536, some ⟨0, 12, false, false, rws GSt.enco (ws.take i)⟩)], []⟩)
    (fun i => i ≤ ws.length) (fun i => ws.length - i) 0 (Nat.zero_le _) (by simp; omega) (by simp [tm, rws]) fun i hi _ => ?_
  have htl : (ws.take i).length = i := by simp; omega
  have hrl := rws_len (enc := GSt.enco) (ws.take i)
  rw [htl] at hrl
  by_cases hlt : i < ws.length
  · have hi' := idx_succ' hlt (by omega)
    obtain ⟨f1, f2, f3, f4⟩ := hs _ (List.getElem_mem hlt)
    have he := fun k => clone k ws[i].p0 ws[i].p1 ws[i].se ws[i].st ws[i].te ws[i].ts ws[i].hs ws[i].ls ws[i].es ws[i].fe ws[i].fs ws[i].cs (by omega) (by omega) (by omega) (by omega)
    have hsn : rws GSt.enco (ws.take (i + 1)) = rws GSt.enco (ws.take i) ++ [GSt.enco ws[i]] := by
      unfold rws
      rw [List.take_succ_eq_append_getElem hlt, List.map_append]; rfl
    have hb1 : ((i + 1) * 160 ≤ 140737488355328 ∧ i ≤ 140737488355327) = True := eq_true (by omega)
    have l1 := rws_len (enc := GHead.enc) ws[i].hs
    have l2 := rws_len (enc := GLast.enc) ws[i].ls
    have l3 := rws_len (enc := GEntry.enc) ws[i].es
    have l4 := rws_len (enc := GChunk.enc) ws[i].cs
    unfold psV resPS at he
    simp only [GSt.enco] at hsn
    generalize hR' : rws GSt.enco (ws.take (i + 1)) = R' at *
    generalize rws GSt.enco (ws.take i) = R at *
    simp [tm, hlt, hrl, hi', GSt.enc, rcall147, he, storeM, moveCells, moveCell, fillOk, AV.own0, AV.ownF, appM, appM2, source, evalW, hb1, l1, l2, l3, l4]
    exact ⟨i + 1, by omega, by omega, ⟨rfl, by simp⟩, by rw [hR', hsn]⟩
  · have : i = ws.length := by omega
    subst this
    rw [List.take_length] at *
    simp [tm, hrl]
set_option maxHeartbeats 32000000 in
theorem l18Own (k : Nat) (ws : List GSt) (hn : ws.length ≤ 1048576) (hs : ∀ x ∈ ws, x.few) : call code (k + 3) 129 [.rd false (rws GSt.enc ws)] [] = some ⟨.sl 0 0 0 [] 0 ws.length, [⟨0, 12, false, false, rws GSt.enco ws⟩], []⟩ := by
  refine call_run rfl fn129 rfl ?_
  simp [F129]
  refine RunC_loop (fun i : Nat => ⟨tm 21 [(0, .rd false (rws GSt.enc ws)), (3, .sl 0 65536 0 [] 0 i), (4, .int .i64 i)], [(0, some ⟨0, 12, false, false, []⟩), (65536, some ⟨0, 12, false, false, rws GSt.enco (ws.take i)⟩)], []⟩)
    (fun i => i ≤ ws.length) (fun i => ws.length - i) 0 (Nat.zero_le _) (by simp; omega) (by simp [tm, rws]) fun i hi _ => ?_
  have htl : (ws.take i).length = i := by simp; omega
  have hrl := rws_len (enc := GSt.enco) (ws.take i)
  rw [htl] at hrl
  by_cases hlt : i < ws.length
  · have hi' := idx_succ' hlt (by omega)
    obtain ⟨f1, f2, f3, f4⟩ := hs _ (List.getElem_mem hlt)
    have he := fun k => l17Copy k ws[i].p0 ws[i].p1 ws[i].se ws[i].st ws[i].te ws[i].ts ws[i].hs ws[i].ls ws[i].es ws[i].fe ws[i].fs ws[i].cs (by omega) (by omega) (by omega) (by omega)
    have hsn : rws GSt.enco (ws.take (i + 1)) = rws GSt.enco (ws.take i) ++ [GSt.enco ws[i]] := by
      unfold rws
      rw [List.take_succ_eq_append_getElem hlt, List.map_append]; rfl
    have hb1 : ((i + 1) * 160 ≤ 140737488355328 ∧ i ≤ 140737488355327) = True := eq_true (by omega)
    have l1 := rws_len (enc := GHead.enc) ws[i].hs
    have l2 := rws_len (enc := GLast.enc) ws[i].ls
    have l3 := rws_len (enc := GEntry.enc) ws[i].es
    have l4 := rws_len (enc := GChunk.enc) ws[i].cs
    unfold psV resPS at he
    simp only [GSt.enco] at hsn
    generalize hR' : rws GSt.enco (ws.take (i + 1)) = R' at *
    generalize rws GSt.enco (ws.take i) = R at *
    simp [tm, hlt, hrl, hi', GSt.enc, rcall59, he, storeM, moveCells, moveCell, fillOk, AV.own0, AV.ownF, appM, appM2, source, evalW, hb1, l1, l2, l3, l4]
    exact ⟨i + 1, by omega, by omega, ⟨rfl, by simp⟩, by rw [hR', hsn]⟩
  · have : i = ws.length := by omega
    subst this
    rw [List.take_length] at *
    simp [tm, hrl]
end Go.Ae.GA.B
