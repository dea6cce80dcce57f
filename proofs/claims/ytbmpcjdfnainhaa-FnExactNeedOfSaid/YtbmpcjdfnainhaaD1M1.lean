/- The laws' own functions: sizes, copies, comparisons, marks. Printed by gbox.py. -/
import Derived.Test.YtbmpcjdfnainhaaAeL6
import Derived.Test.YtbmpcjdfnainhaaD1Code
namespace Go.Ae.D1
set_option linter.unusedSimpArgs false
set_option linter.unusedVariables false
set_option maxRecDepth 10000

theorem fitInt64S : ∀ {xs : List (List AV)}, (∀ r ∈ xs, FitsAll [.int .i64] r) → ∃ ws : List Int, xs = rws encI ws ∧ ∀ x ∈ ws, (-9223372036854775808 ≤ x ∧ x ≤ 9223372036854775807)
  | [], _ => ⟨[], rfl, fun _ h => by cases h⟩
  | r :: xs, h => by
    have h0 := h r List.mem_cons_self
    obtain ⟨_, _, rfl, h1, h0⟩ := h0.cons_inv
    obtain rfl := h0.nil_inv
    obtain ⟨v0, rfl, w0⟩ := h1.i64_inv
    obtain ⟨ws, rfl, hw⟩ := fitInt64S fun x hx => h x (List.mem_cons_of_mem _ hx)
    exact ⟨v0 :: ws, rfl, fun s hs => by rcases List.mem_cons.1 hs with rfl | hs; exact w0; exact hw s hs⟩
theorem eqInt64S (k : Nat) (ws : List Int) (hn : ws.length ≤ 1048576000) : call code (k + 1) 46 [.rd true (rws encI ws), .rd true (rws encI ws)] [] = some ⟨.bool true, [], []⟩ := by
  refine call_run rfl fn46 rfl ?_
  simp [F46]
  refine RunC_loop (fun i : Nat => ⟨tm 26 [(0, .rd true (rws encI ws)), (1, .rd true (rws encI ws)), (5, .int .i64 i)], [], []⟩)
    (fun i => i ≤ ws.length) (fun i => ws.length - i) 0 (Nat.zero_le _) (by simp; omega) (by simp [tm]) fun i hi _ => ?_
  by_cases hlt : i < ws.length
  · have hs := idx_succ' hlt (by omega)
    simp [tm, hlt, hs, encI]
    exact ⟨i + 1, by omega, by omega, by simp⟩
  · have : i = ws.length := by omega
    subst this
    simp [tm]
set_option maxHeartbeats 4000000 in
theorem markInt64S (k lv : Nat) (E : List Heap) (S : Nat) (ws : List Int) (c : Int) (hn : ws.length ≤ 1100000) (hc : 1 ≤ c ∧ c ≤ 800000000) (hlv : lv < E.length) (hl : (hat E lv).get S = some (some ⟨0, 1, false, true, rws encI ws⟩)) :
    call code (k + 1) 47 [.sl (lv + 1) S 0 [] 0 ws.length, .int .i64 c] E = some ⟨.int .i64 (c + ws.length), [], E.modify lv fun h => hp h S (mblk encI 1 mkI c ws) ws.length⟩ := by
  refine call_run rfl fn47 rfl ?_
  simp [F47]
  refine RunC_loop (fun i : Nat => ⟨tm 19 [(0, .sl (lv + 1) S 0 [] 0 ws.length), (1, .int .i64 (c + i)), (5, .int .i64 i)], [], E.modify lv fun h => hp h S (mblk encI 1 mkI c ws) i⟩)
    (fun i => i ≤ ws.length) (fun i => ws.length - i) 0 (Nat.zero_le _) (by simp; omega) (by simp [tm, hp_zero, modify_id']) fun i hi _ => ?_
  have hg : (hp (hat E lv) S (mblk encI 1 mkI c ws) i).get S = some (some ⟨0, 1, false, true, rws encI (mix (mkI c) ws i)⟩) := hp_get (by rw [mblk_zero]; exact hl) i
  have hml := mix_len (f := mkI c) hi
  by_cases hlt : i < ws.length
  · have hs := idx_succ' hlt (by omega)
    have hset : (rws encI (mix (mkI c) ws i)).set i (encI (mkI c i)) = rws encI (mix (mkI c) ws (i + 1)) := by rw [rws_set, mix_set hlt]
    have hhs : ∀ h : Heap, (hp h S (mblk encI 1 mkI c ws) i).set S (some ⟨0, 1, false, true, rws encI (mix (mkI c) ws (i + 1))⟩) = hp h S (mblk encI 1 mkI c ws) (i + 1) := fun h => hp_set i
    have p0 : IntKind.wrap .i64 (c + (i : Int) + 1) = c + ((i + 1 : Nat) : Int) := by rw [wrap64 ⟨by omega, by omega⟩] <;> omega
    simp only [encI, mkI] at hset
    simp [tm, hlt, hg, blk_succ, heap_succ, put_succ, storeM, hat_modify, modify_modify', hlv, hml, hs, get_set, set_set_same, encI, hset, hhs, p0]
    exact ⟨i + 1, by omega, by omega, by simp⟩
  · have : i = ws.length := by omega
    subst this
    simp [tm, hg, blk_succ, hml, hat_modify, hlv]
set_option maxHeartbeats 4000000 in
theorem heldInt64S (k : Nat) (n : Nat) (c : Int) (hn : n ≤ 1100000) (hc : 1 ≤ c ∧ c ≤ 800000000) : call code (k + 1) 48 [.rd true (rws encI (marks mkI c n)), .int .i64 c] [] = some ⟨.int .i64 (c + n), [], []⟩ := by
  refine call_run rfl fn48 rfl ?_
  simp [F48]
  refine RunC_loop (fun i : Nat => ⟨tm 21 [(0, .rd true (rws encI (marks mkI c n))), (1, .int .i64 (c + i)), (5, .int .i64 i)], [], []⟩)
    (fun i => i ≤ n) (fun i => n - i) 0 (Nat.zero_le _) (by simp; omega) (by simp [tm]) fun i hi _ => ?_
  by_cases hlt : i < n
  · have hs := idx_succ' hlt (by omega)
    have p0 : IntKind.wrap .i64 (c + (i : Int) + 1) = c + ((i + 1 : Nat) : Int) := by rw [wrap64 ⟨by omega, by omega⟩] <;> omega
    simp [tm, hlt, hs, marks_at, encI, mkI, p0]
    exact ⟨i + 1, by omega, by omega, by simp⟩
  · have : i = n := by omega
    subst this
    simp [tm]
theorem szInt64S (k : Nat) (l : Int) (ws : List Int) (hl : 0 ≤ l ∧ l ≤ 1048576) (hn : ws.length ≤ 140737488351232) : call code (k + 1) 80 [.rd true (rws encI ws), .int .i64 l] [] = some ⟨.int .i64 (szV l ws.length), [], []⟩ := by
  refine call_run rfl fn80 rfl ?_
  have e1 : IntKind.wrap .i64 (l - (ws.length : Int)) = l - ws.length := wrap64 ⟨by omega, by omega⟩
  cases hd : decide (l - (ws.length : Int) < 0)
  · rw [szV_le (by have := of_decide_eq_false hd; omega)]
    simp [F80, e1, hd]
  · rw [szV_gt (by have := of_decide_eq_true hd; omega)]
    simp [F80, e1, hd]
theorem toInt64S (k : Nat) (ws : List Int) (hn : ws.length ≤ 1048576) : call code (k + 1) 83 [.rd true (rws encI ws)] [] = some ⟨.sl 0 0 0 [] 0 ws.length, [⟨0, 1, false, true, rws encI ws⟩], []⟩ := by
  refine call_run rfl fn83 rfl ?_
  simp [F83, zeroRow]
  refine ⟨⟨by omega, by omega⟩, ?_⟩
  refine RunC_loop (fun i : Nat => ⟨tm 22 [(0, .rd true (rws encI ws)), (3, .sl 0 66048 0 [] 0 ws.length), (4, .int .i64 i)], [(0, some ⟨0, 1, false, true, []⟩), (66048, some ⟨0, 1, false, true, rws encI (cpy (0 : Int) ws i)⟩)], []⟩)
    (fun i => i ≤ ws.length) (fun i => ws.length - i) 0 (Nat.zero_le _) (by simp; omega) (by simp [tm, rws_cpy, encI]) fun i hi _ => ?_
  have hcl := cpy_len (z := (0 : Int)) hi
  by_cases hlt : i < ws.length
  · have hst : (rws encI (cpy (0 : Int) ws i)).set i (encI ws[i]) = rws encI (cpy (0 : Int) ws (i + 1)) := by rw [rws_set, cpy_set hlt]
    have hs := idx_succ' hlt (by omega)
    simp only [encI] at hst
    simp [tm, hlt, hcl, hst, hs, encI]
    exact ⟨i + 1, by omega, by omega, by simp, rfl⟩
  · have : i = ws.length := by omega
    subst this
    simp [tm, cpy_all]
theorem eqInterval (k : Nat) (v0 : Int) (v1 : Int) (v2 : List Int) (v3 : Bool) (hv2 : v2.length ≤ 1048576000) : call code (k + 2) 12 [.agg [.int .i64 v0, .int .i64 v1, .rd true (rws encI v2), .bool v3], .agg [.int .i64 v0, .int .i64 v1, .rd true (rws encI v2), .bool v3]] [] = some ⟨.bool true, [], []⟩ := by
  refine call_run rfl fn12 rfl ?_
  have q0 := fun k => eqInt64S k v2 hv2
  simp [F12, rcall46, q0, storeM]
set_option maxHeartbeats 4000000 in
theorem markInterval (k lv : Nat) (E : List Heap) (v0 : Int) (v1 : Int) (v2 : List Int) (v3 : Bool) (S2 : Nat) (c : Int) (hc : 1 ≤ c ∧ c ≤ 400000000) (hlv : lv < E.length) (nv2 : v2.length ≤ 1100000) (gv2 : (hat E lv).get S2 = some (some ⟨0, 1, false, true, rws encI v2⟩))  :
    call code (k + 2) 15 [.agg [.int .i64 v0, .int .i64 v1, .sl (lv + 1) S2 0 [] 0 v2.length, .bool v3], .int .i64 c] E = some ⟨.int .i64 (c + v2.length), [], E.modify lv fun h => hp (h) S2 (mblk encI 1 mkI (c) v2) v2.length⟩ := by
  refine call_run rfl fn15 rfl ?_
  have q0 := fun k l0 => markInt64S k (lv + 1) (l0 :: E) S2 v2 (c) nv2 (by omega) (by simp; omega) (by simpa using gv2)
  simp [F15, rcall47, q0, storeM, modify_modify', hlv]
set_option maxHeartbeats 4000000 in
theorem heldInterval (k : Nat) (v0 : Int) (v1 : Int) (n2 : Nat) (v3 : Bool) (c : Int) (hc : 1 ≤ c ∧ c ≤ 400000000) (hv2 : n2 ≤ 1100000) : call code (k + 2) 16 [.agg [.int .i64 v0, .int .i64 v1, .rd true (rws encI (marks mkI (c) n2)), .bool v3], .int .i64 c] [] = some ⟨.int .i64 (c + n2), [], []⟩ := by
  refine call_run rfl fn16 rfl ?_
  have q0 := fun k => heldInt64S k n2 (c) hv2 (by omega)
  have d0 : decide (c + (n2 : Int) < 0) = false := by simp; omega
  simp [F16, rcall48, q0, d0]
theorem szInterval (k : Nat) (l : Int) (v0 : Int) (v1 : Int) (v2 : List Int) (v3 : Bool) (hl : 0 ≤ l ∧ l ≤ 1048576) (b2 : v2.length ≤ 140737488351232) : call code (k + 2) 37 [.agg [.int .i64 v0, .int .i64 v1, .rd true (rws encI v2), .bool v3], .int .i64 l] [] = some ⟨.int .i64 (szV l (v2.length)), [], []⟩ := by
  refine call_run rfl fn37 rfl ?_
  have e0 := fun k => szInt64S k (l) v2 ⟨by omega, by omega⟩ b2
  cases d0 : decide (szV (l) v2.length < 0)
  rotate_left
  · obtain ⟨a0, z0⟩ := szV_neg d0 (by omega)
    rw [z0] at e0
    have hr : szV l (v2.length) = -1 := szV_gt (by omega)
    rw [hr]; simp [F37, rcall80, e0]
  obtain ⟨a0, z0⟩ := szV_pos d0 (by omega)
  rw [z0] at e0 d0
  try simp only [Int.natCast_add] at e0 d0
  have hr : szV l (v2.length) = l - ((v2.length : Nat) : Int) := by rw [szV_le (by omega)] <;> omega
  rw [hr]; simp [F37, rcall80, e0, d0]
theorem toInterval (k : Nat) (v0 : Int) (v1 : Int) (v2 : List Int) (v3 : Bool) (hv2 : v2.length ≤ 1048576) : call code (k + 2) 40 [.agg [.int .i64 v0, .int .i64 v1, .rd true (rws encI v2), .bool v3]] [] = some ⟨.agg [.int .i64 v0, .int .i64 v1, .sl 0 0 0 [] 0 v2.length, .bool v3], [⟨0, 1, false, true, rws encI v2⟩], []⟩ := by
  refine call_run rfl fn40 rfl ?_
  have q0 := fun k => toInt64S k v2 hv2
  simp [F40, rcall83, q0, storeM]
end Go.Ae.D1
namespace Go.Ae.D1
set_option linter.unusedSimpArgs false
set_option linter.unusedVariables false
set_option maxRecDepth 10000
structure GIv where
  First : Int
  Last : Int
  Acting : List Int
  May : Bool
namespace GIv
/-- As it is read. -/
def enc (x : GIv) : List AV := [.int .i64 x.First, .int .i64 x.Last, .rd true (rws encI x.Acting), .bool x.May]
/-- As a row of one's own holds it. -/
def enco (x : GIv) : List AV := [.int .i64 x.First, .int .i64 x.Last, .own true (rws encI x.Acting), .bool x.May]
def zero : GIv := ⟨0, 0, [], false⟩
def wt (x : GIv) : Nat := x.Acting.length
def ok (x : GIv) : Prop := (-9223372036854775808 ≤ x.First ∧ x.First ≤ 9223372036854775807) ∧ (-9223372036854775808 ≤ x.Last ∧ x.Last ≤ 9223372036854775807) ∧ x.Acting.length ≤ 17592186044416 ∧ ∀ z ∈ x.Acting, -9223372036854775808 ≤ z ∧ z ≤ 9223372036854775807
/-- Marked from c on. -/
def mkAt (c : Int) (x : GIv) : GIv := ⟨c, c + 1, marks mkI (c + 2) x.Acting.length, (c + 2 + x.Acting.length) % 3 == 0⟩
end GIv
theorem cpy_at {α : Type} {z : α} {ws : List α} {i : Nat} (h : i < ws.length) (h' : i < (cpy z ws i).length) : (cpy z ws i)[i] = z := by
  have h2 : (cpy z ws i)[i]? = some z := by
    rw [show cpy z ws i = ws.take i ++ List.replicate (ws.length - i) z from rfl, List.getElem?_append_right (by simp; omega)]
    simp [List.getElem?_replicate]; omega
  rw [List.getElem?_eq_getElem h'] at h2
  exact Option.some.inj h2
theorem deep_own (l : List GIv) : AV.deepRows (rws GIv.enco l) = rws GIv.enc l := by
  rw [deepRows_map]
  simp only [rws, List.map_map]
  refine List.map_congr_left fun x _ => ?_
  have hsc : AV.deepRows (rws encI x.Acting) = rws encI x.Acting := deepRows_flat (fun r hr v hv => by
    simp only [rws, List.mem_map] at hr
    obtain ⟨z, _, rfl⟩ := hr
    simp [encI] at hv
    subst hv; rfl)
  simp only [rws] at hsc
  simp [GIv.enco, GIv.enc, AV.deep, rws, hsc]
theorem fitIv : ∀ {xs : List (List AV)}, (∀ r ∈ xs, FitsAll [.int .i64, .int .i64, .sl 8 [.int .i64], .bool] r) → ∃ ws : List GIv, xs = rws GIv.enc ws ∧ ∀ x ∈ ws, x.ok
  | [], _ => ⟨[], rfl, fun _ h => by cases h⟩
  | r :: xs, h => by
    have h0 := h r List.mem_cons_self
    obtain ⟨_, _, rfl, h1, h0⟩ := h0.cons_inv
    obtain ⟨_, _, rfl, h2, h0⟩ := h0.cons_inv
    obtain ⟨_, _, rfl, h3, h0⟩ := h0.cons_inv
    obtain ⟨_, _, rfl, h4, h0⟩ := h0.cons_inv
    obtain rfl := h0.nil_inv
    obtain ⟨v0, rfl, w0⟩ := h1.i64_inv
    obtain ⟨v1, rfl, w1⟩ := h2.i64_inv
    obtain ⟨ys, rfl, w2, hr⟩ := h3.sl_inv
    obtain ⟨us, rfl, hu⟩ := fitInt64S hr
    obtain ⟨v3, rfl⟩ := h4.bool_inv
    obtain ⟨ws, rfl, hw⟩ := fitIv fun x hx => h x (List.mem_cons_of_mem _ hx)
    rw [rws_len] at w2
    exact ⟨⟨v0, v1, us, v3⟩ :: ws, rfl, fun s hs => by rcases List.mem_cons.1 hs with rfl | hs; exact ⟨w0, w1, by simp; omega, hu⟩; exact hw s hs⟩
theorem eqIntervalS (k : Nat) (ws : List GIv) (hn : ws.length ≤ 1048576000) (hs : ∀ x ∈ ws, x.Acting.length ≤ 1048576000) : call code (k + 3) 13 [.rd false (rws GIv.enc ws), .rd false (rws GIv.enc ws)] [] = some ⟨.bool true, [], []⟩ := by
  refine call_run rfl fn13 rfl ?_
  simp [F13]
  refine RunC_loop (fun i : Nat => ⟨tm 27 [(0, .rd false (rws GIv.enc ws)), (1, .rd false (rws GIv.enc ws)), (5, .int .i64 i)], [], []⟩)
    (fun i => i ≤ ws.length) (fun i => ws.length - i) 0 (Nat.zero_le _) (by simp; omega) (by simp [tm]) fun i hi _ => ?_
  by_cases hlt : i < ws.length
  · have hi' := idx_succ' hlt (by omega)
    have he := fun k => eqInterval k ws[i].First ws[i].Last ws[i].Acting ws[i].May (hs _ (List.getElem_mem hlt))
    simp [tm, hlt, hi', GIv.enc, rcall12, he]
    exact ⟨i + 1, by omega, by omega, by simp⟩
  · have : i = ws.length := by omega
    subst this
    simp [tm]
set_option maxHeartbeats 4000000 in
theorem toIntervalS (k : Nat) (ws : List GIv) (hn : ws.length ≤ 1048576) (hs : ∀ x ∈ ws, x.Acting.length ≤ 1048576) : call code (k + 3) 10 [.rd false (rws GIv.enc ws)] [] = some ⟨.sl 0 0 0 [] 0 ws.length, [⟨0, 4, false, false, rws GIv.enco ws⟩], []⟩ := by
  refine call_run rfl fn10 rfl ?_
  simp [F10, zeroRow]
  refine ⟨⟨by omega, by omega⟩, ?_⟩
  refine RunC_loop (fun i : Nat => ⟨tm 23 [(0, .rd false (rws GIv.enc ws)), (3, .sl 0 66048 0 [] 0 ws.length), (4, .int .i64 i)], [(0, some ⟨0, 4, false, false, []⟩), (66048, some ⟨0, 4, false, false, rws GIv.enco (cpy GIv.zero ws i)⟩)], []⟩)
    (fun i => i ≤ ws.length) (fun i => ws.length - i) 0 (Nat.zero_le _) (by simp; omega) (by simp [tm, rws_cpy, GIv.enco, GIv.zero]) fun i hi _ => ?_
  have hcl := cpy_len (z := GIv.zero) hi
  by_cases hlt : i < ws.length
  · have hst : (rws GIv.enco (cpy GIv.zero ws i)).set i (GIv.enco ws[i]) = rws GIv.enco (cpy GIv.zero ws (i + 1)) := by rw [rws_set, cpy_set hlt]
    have hi' := idx_succ' hlt (by omega)
    have hz : ∀ h : i < (rws GIv.enco (cpy GIv.zero ws i)).length, (rws GIv.enco (cpy GIv.zero ws i))[i]'h = [.int .i64 0, .int .i64 0, .own true [], .bool false] := fun h => by
      rw [rws_get, cpy_at hlt]; rfl
    have he := fun k => toInterval k ws[i].First ws[i].Last ws[i].Acting ws[i].May (hs _ (List.getElem_mem hlt))
    have hrl : (rws GIv.enco (cpy GIv.zero ws i)).length = ws.length := by rw [rws_len, hcl]
    simp only [GIv.enco] at hst
    generalize hR' : rws GIv.enco (cpy GIv.zero ws (i + 1)) = R' at *
    generalize rws GIv.enco (cpy GIv.zero ws i) = R at *
    simp [tm, hlt, hrl, hst, hi', hz, GIv.enc, rcall40, he, storeM, moveCells, moveCell, fillOk, AV.own0, AV.ownF]
    exact ⟨i + 1, by omega, by omega, by simp, by rw [hR']⟩
  · have : i = ws.length := by omega
    subst this
    simp [tm, cpy_all]
theorem szIntervalS (k : Nat) (l : Int) (ws : List GIv) (hl : 0 ≤ l ∧ l ≤ 1048576) (hn : ws.length ≤ 140737488351232) (hs : ∀ x ∈ ws, x.ok) : call code (k + 3) 8 [.rd false (rws GIv.enc ws), .int .i64 l] [] = some ⟨.int .i64 (szV l (ws.length + wsum GIv.wt ws)), [], []⟩ := by
  refine call_run rfl fn8 rfl ?_
  have e1 : IntKind.wrap .i64 (l - (ws.length : Int)) = l - ws.length := wrap64 ⟨by omega, by omega⟩
  cases hd : decide (l - (ws.length : Int) < 0)
  · have hd' := of_decide_eq_false hd
    rw [← szV_step (by omega)]
    simp [F8, e1, hd]
    refine RunC_loop (fun q : Nat × Int => ⟨tm 27 [(0, .rd false (rws GIv.enc ws)), (1, .int .i64 q.2), (5, .int .i64 q.1)], [], []⟩)
      (fun q => q.1 ≤ ws.length ∧ 0 ≤ q.2 ∧ q.2 ≤ l ∧ szV q.2 (wsum GIv.wt (ws.drop q.1)) = szV (l - ws.length) (wsum GIv.wt ws)) (fun q => ws.length - q.1) (0, l - ws.length) ⟨Nat.zero_le _, by simp; omega, by simp; omega, by simp⟩ (by simp; omega) (by simp [tm]) fun q hq _ => ?_
    obtain ⟨i, c⟩ := q
    obtain ⟨h1, h2, h3, h4⟩ := hq
    simp only at h1 h2 h3 h4
    by_cases hlt : i < ws.length
    · have hz := hs ws[i] (List.getElem_mem hlt)
      have hi := idx_succ' hlt (by omega)
      rw [wsum_drop hlt] at h4
      have hp := fun k => szInterval k c ws[i].First ws[i].Last ws[i].Acting ws[i].May ⟨h2, by omega⟩ (by have := hz.2.2.1; omega)
      have hwt : GIv.wt ws[i] = ws[i].Acting.length := rfl
      rw [hwt] at h4
      cases hd2 : decide (szV c ws[i].Acting.length < 0)
      · obtain ⟨a1, a2⟩ := szV_pos hd2 h2
        rw [a2] at hp hd2
        rw [← szV_step a1] at h4
        simp [tm, hlt, hi, GIv.enc, rcall37, hp, hd2]
        exact ⟨i + 1, _, ⟨by omega, by omega, by omega, h4⟩, by omega, rfl, by simp⟩
      · obtain ⟨a1, a2⟩ := szV_neg hd2 h2
        rw [a2] at hp
        rw [szV_stop a1] at h4
        simp [tm, hlt, GIv.enc, rcall37, hp, ← h4]
    · have : i = ws.length := by omega
      subst this
      rw [wsum_all, szV_zero h2] at h4
      simp [tm, h4]
  · rw [szV_stop (by have := of_decide_eq_true hd; omega)]
    simp [F8, e1, hd]
/-- Where the marks go on behind some. -/
def nxtM : Int → List GIv → Int
  | c, [] => c
  | c, x :: r => nxtM (c + 3 + x.Acting.length) r
def mkl : Int → List GIv → List GIv
  | _, [] => []
  | c, x :: r => x.mkAt c :: mkl (c + 3 + x.Acting.length) r
/-- The first i marked. -/
def mkd (c : Int) (ws : List GIv) (i : Nat) : List GIv := mkl c (ws.take i) ++ ws.drop i
theorem mkl_len : ∀ (c : Int) (ws : List GIv), (mkl c ws).length = ws.length
  | _, [] => rfl
  | c, x :: r => by simp [mkl, mkl_len]
theorem nxtM_app : ∀ (c : Int) (ws vs : List GIv), nxtM c (ws ++ vs) = nxtM (nxtM c ws) vs
  | _, [], _ => rfl
  | c, x :: r, vs => by simp only [List.cons_append, nxtM]; exact nxtM_app _ r vs
theorem mkl_app : ∀ (c : Int) (ws vs : List GIv), mkl c (ws ++ vs) = mkl c ws ++ mkl (nxtM c ws) vs
  | _, [], _ => rfl
  | c, x :: r, vs => by simp only [List.cons_append, mkl, nxtM, mkl_app _ r vs]
theorem nxtM_bound : ∀ (c : Int) (ws : List GIv), nxtM c ws = c + 3 * ws.length + wsum GIv.wt ws
  | c, [] => by simp [nxtM, wsum]
  | c, x :: r => by
    rw [nxtM, nxtM_bound]
    have h : wsum GIv.wt (x :: r) = x.Acting.length + wsum GIv.wt r := by simp [wsum, GIv.wt]
    rw [h]; simp; omega
theorem mkd_len {c : Int} {ws : List GIv} {i : Nat} (h : i ≤ ws.length) : (mkd c ws i).length = ws.length := by simp [mkd, mkl_len]; omega
theorem mkd_zero (c : Int) (ws : List GIv) : mkd c ws 0 = ws := by simp [mkd, mkl]
theorem mkd_all (c : Int) (ws : List GIv) : mkd c ws ws.length = mkl c ws := by simp [mkd]
theorem mkd_at {c : Int} {ws : List GIv} {i : Nat} (h : i < ws.length) (h' : i < (mkd c ws i).length) : (mkd c ws i)[i] = ws[i] := by
  have h2 : (mkd c ws i)[i]? = some ws[i] := by
    have hl : (mkl c (ws.take i)).length = i := by rw [mkl_len]; simp; omega
    rw [show mkd c ws i = mkl c (ws.take i) ++ ws.drop i from rfl, List.getElem?_append_right (by omega), hl]
    simp
  rw [List.getElem?_eq_getElem h'] at h2
  exact Option.some.inj h2
theorem mkd_set {c : Int} {ws : List GIv} {i : Nat} (h : i < ws.length) : (mkd c ws i).set i (ws[i].mkAt (nxtM c (ws.take i))) = mkd c ws (i + 1) := by
  have hl : (mkl c (ws.take i)).length = i := by rw [mkl_len]; simp; omega
  unfold mkd
  rw [List.set_append_right i _ (by omega), hl, Nat.sub_self, List.drop_eq_getElem_cons h, List.set_cons_zero, List.take_succ_eq_append_getElem h, mkl_app]
  simp [mkl]
theorem nxtM_succ {c : Int} {ws : List GIv} {i : Nat} (h : i < ws.length) : nxtM c (ws.take (i + 1)) = nxtM c (ws.take i) + 3 + ws[i].Acting.length := by
  rw [List.take_succ_eq_append_getElem h, nxtM_app]; rfl
end Go.Ae.D1
