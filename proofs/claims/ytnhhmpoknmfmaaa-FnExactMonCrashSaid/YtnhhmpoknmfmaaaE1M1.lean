/- The laws' own functions: sizes, copies, comparisons, marks. Printed by gbox.py. -/
import Derived.Test.YtnhhmpoknmfmaaaAeL6
import Derived.Test.YtnhhmpoknmfmaaaE1Code
namespace Go.Ae.E1
set_option linter.unusedSimpArgs false
set_option linter.unusedVariables false
set_option maxRecDepth 10000

structure GSlot where
  Epoch : Int
  Promised_No : Int
  Promised_By : Int
  Accepted_No : Int
  Accepted_By : Int
  Inc_Epoch : Int
  Inc_Kind : Int
  Inc_A : Int
  Inc_B : Int
namespace GSlot
def enc (x : GSlot) : List AV := [.int .i64 x.Epoch, .int .i64 x.Promised_No, .int .i64 x.Promised_By, .int .i64 x.Accepted_No, .int .i64 x.Accepted_By, .int .i64 x.Inc_Epoch, .int .i64 x.Inc_Kind, .int .i64 x.Inc_A, .int .i64 x.Inc_B]
def zero : GSlot := ⟨0, 0, 0, 0, 0, 0, 0, 0, 0⟩
def mkAt (c : Int) (i : Nat) : GSlot := ⟨c + 9 * i, c + 9 * i + 1, c + 9 * i + 2, c + 9 * i + 3, c + 9 * i + 4, c + 9 * i + 5, c + 9 * i + 6, c + 9 * i + 7, c + 9 * i + 8⟩
def wt (x : GSlot) : Nat := 0
/-- Numbers of 64 bits, texts of a machine's size. -/
def ok (x : GSlot) : Prop := (-9223372036854775808 ≤ x.Epoch ∧ x.Epoch ≤ 9223372036854775807) ∧ (-9223372036854775808 ≤ x.Promised_No ∧ x.Promised_No ≤ 9223372036854775807) ∧ (-9223372036854775808 ≤ x.Promised_By ∧ x.Promised_By ≤ 9223372036854775807) ∧ (-9223372036854775808 ≤ x.Accepted_No ∧ x.Accepted_No ≤ 9223372036854775807) ∧ (-9223372036854775808 ≤ x.Accepted_By ∧ x.Accepted_By ≤ 9223372036854775807) ∧ (-9223372036854775808 ≤ x.Inc_Epoch ∧ x.Inc_Epoch ≤ 9223372036854775807) ∧ (-9223372036854775808 ≤ x.Inc_Kind ∧ x.Inc_Kind ≤ 9223372036854775807) ∧ (-9223372036854775808 ≤ x.Inc_A ∧ x.Inc_A ≤ 9223372036854775807) ∧ (-9223372036854775808 ≤ x.Inc_B ∧ x.Inc_B ≤ 9223372036854775807)
end GSlot
theorem fitSlotS : ∀ {xs : List (List AV)}, (∀ r ∈ xs, FitsAll [.int .i64, .int .i64, .int .i64, .int .i64, .int .i64, .int .i64, .int .i64, .int .i64, .int .i64] r) → ∃ ws : List GSlot, xs = rws GSlot.enc ws ∧ ∀ x ∈ ws, x.ok
  | [], _ => ⟨[], rfl, fun _ h => by cases h⟩
  | r :: xs, h => by
    have h0 := h r List.mem_cons_self
    obtain ⟨_, _, rfl, h1, h0⟩ := h0.cons_inv
    obtain ⟨_, _, rfl, h2, h0⟩ := h0.cons_inv
    obtain ⟨_, _, rfl, h3, h0⟩ := h0.cons_inv
    obtain ⟨_, _, rfl, h4, h0⟩ := h0.cons_inv
    obtain ⟨_, _, rfl, h5, h0⟩ := h0.cons_inv
    obtain ⟨_, _, rfl, h6, h0⟩ := h0.cons_inv
    obtain ⟨_, _, rfl, h7, h0⟩ := h0.cons_inv
    obtain ⟨_, _, rfl, h8, h0⟩ := h0.cons_inv
    obtain ⟨_, _, rfl, h9, h0⟩ := h0.cons_inv
    obtain rfl := h0.nil_inv
    obtain ⟨v0, rfl, w0⟩ := h1.i64_inv
    obtain ⟨v1, rfl, w1⟩ := h2.i64_inv
    obtain ⟨v2, rfl, w2⟩ := h3.i64_inv
    obtain ⟨v3, rfl, w3⟩ := h4.i64_inv
    obtain ⟨v4, rfl, w4⟩ := h5.i64_inv
    obtain ⟨v5, rfl, w5⟩ := h6.i64_inv
    obtain ⟨v6, rfl, w6⟩ := h7.i64_inv
    obtain ⟨v7, rfl, w7⟩ := h8.i64_inv
    obtain ⟨v8, rfl, w8⟩ := h9.i64_inv
    obtain ⟨ws, rfl, hw⟩ := fitSlotS fun x hx => h x (List.mem_cons_of_mem _ hx)
    exact ⟨⟨v0, v1, v2, v3, v4, v5, v6, v7, v8⟩ :: ws, rfl, fun s hs => by rcases List.mem_cons.1 hs with rfl | hs; exact ⟨w0, w1, w2, w3, w4, w5, w6, w7, w8⟩; exact hw s hs⟩
theorem fitInt64S : ∀ {xs : List (List AV)}, (∀ r ∈ xs, FitsAll [.int .i64] r) → ∃ ws : List Int, xs = rws encI ws ∧ ∀ x ∈ ws, (-9223372036854775808 ≤ x ∧ x ≤ 9223372036854775807)
  | [], _ => ⟨[], rfl, fun _ h => by cases h⟩
  | r :: xs, h => by
    have h0 := h r List.mem_cons_self
    obtain ⟨_, _, rfl, h1, h0⟩ := h0.cons_inv
    obtain rfl := h0.nil_inv
    obtain ⟨v0, rfl, w0⟩ := h1.i64_inv
    obtain ⟨ws, rfl, hw⟩ := fitInt64S fun x hx => h x (List.mem_cons_of_mem _ hx)
    exact ⟨v0 :: ws, rfl, fun s hs => by rcases List.mem_cons.1 hs with rfl | hs; exact w0; exact hw s hs⟩
theorem toInc (k : Nat) (v0 : Int) (v1 : Int) (v2 : Int) (v3 : Int)  : call code (k + 1) 25 [.agg [.int .i64 v0, .int .i64 v1, .int .i64 v2, .int .i64 v3]] [] = some ⟨.agg [.int .i64 v0, .int .i64 v1, .int .i64 v2, .int .i64 v3], [], []⟩ := by
  refine call_run rfl fn25 rfl ?_
  simp [F25, storeM]
theorem szSlotS (k : Nat) (l : Int) (ws : List GSlot) (hl : 0 ≤ l ∧ l ≤ 1048576) (hn : ws.length ≤ 140737488351232) : call code (k + 1) 51 [.rd true (rws GSlot.enc ws), .int .i64 l] [] = some ⟨.int .i64 (szV l ws.length), [], []⟩ := by
  refine call_run rfl fn51 rfl ?_
  have e1 : IntKind.wrap .i64 (l - (ws.length : Int)) = l - ws.length := wrap64 ⟨by omega, by omega⟩
  cases hd : decide (l - (ws.length : Int) < 0)
  · rw [szV_le (by have := of_decide_eq_false hd; omega)]
    simp [F51, e1, hd]
  · rw [szV_gt (by have := of_decide_eq_true hd; omega)]
    simp [F51, e1, hd]
set_option maxHeartbeats 4000000 in
theorem markSlotS (k lv : Nat) (E : List Heap) (S : Nat) (ws : List GSlot) (c : Int) (hn : ws.length ≤ 1100000) (hc : 1 ≤ c ∧ c ≤ 800000000) (hlv : lv < E.length) (hl : (hat E lv).get S = some (some ⟨0, 9, false, true, rws GSlot.enc ws⟩)) :
    call code (k + 1) 58 [.sl (lv + 1) S 0 [] 0 ws.length, .int .i64 c] E = some ⟨.int .i64 (c + 9 * ws.length), [], E.modify lv fun h => hp h S (mblk GSlot.enc 9 GSlot.mkAt c ws) ws.length⟩ := by
  refine call_run rfl fn58 rfl ?_
  simp [F58]
  refine RunC_loop (fun i : Nat => ⟨tm 84 [(0, .sl (lv + 1) S 0 [] 0 ws.length), (1, .int .i64 (c + 9 * i)), (5, .int .i64 i)], [], E.modify lv fun h => hp h S (mblk GSlot.enc 9 GSlot.mkAt c ws) i⟩)
    (fun i => i ≤ ws.length) (fun i => ws.length - i) 0 (Nat.zero_le _) (by simp; omega) (by simp [tm, hp_zero, modify_id']) fun i hi _ => ?_
  have hg : (hp (hat E lv) S (mblk GSlot.enc 9 GSlot.mkAt c ws) i).get S = some (some ⟨0, 9, false, true, rws GSlot.enc (mix (GSlot.mkAt c) ws i)⟩) := hp_get (by rw [mblk_zero]; exact hl) i
  have hml := mix_len (f := GSlot.mkAt c) hi
  by_cases hlt : i < ws.length
  · have hs := idx_succ' hlt (by omega)
    have hset : (rws GSlot.enc (mix (GSlot.mkAt c) ws i)).set i (GSlot.enc (GSlot.mkAt c i)) = rws GSlot.enc (mix (GSlot.mkAt c) ws (i + 1)) := by rw [rws_set, mix_set hlt]
    have hhs : ∀ h : Heap, (hp h S (mblk GSlot.enc 9 GSlot.mkAt c ws) i).set S (some ⟨0, 9, false, true, rws GSlot.enc (mix (GSlot.mkAt c) ws (i + 1))⟩) = hp h S (mblk GSlot.enc 9 GSlot.mkAt c ws) (i + 1) := fun h => hp_set i
    have p0 : IntKind.wrap .i64 (c + 9 * (i : Int) + 1) = c + 9 * (i : Int) + 1 := by rw [wrap64 ⟨by omega, by omega⟩] <;> omega
    have p1 : IntKind.wrap .i64 (c + 9 * (i : Int) + 1 + 1) = c + 9 * (i : Int) + 2 := by rw [wrap64 ⟨by omega, by omega⟩] <;> omega
    have p2 : IntKind.wrap .i64 (c + 9 * (i : Int) + 2 + 1) = c + 9 * (i : Int) + 3 := by rw [wrap64 ⟨by omega, by omega⟩] <;> omega
    have p3 : IntKind.wrap .i64 (c + 9 * (i : Int) + 3 + 1) = c + 9 * (i : Int) + 4 := by rw [wrap64 ⟨by omega, by omega⟩] <;> omega
    have p4 : IntKind.wrap .i64 (c + 9 * (i : Int) + 4 + 1) = c + 9 * (i : Int) + 5 := by rw [wrap64 ⟨by omega, by omega⟩] <;> omega
    have p5 : IntKind.wrap .i64 (c + 9 * (i : Int) + 5 + 1) = c + 9 * (i : Int) + 6 := by rw [wrap64 ⟨by omega, by omega⟩] <;> omega
    have p6 : IntKind.wrap .i64 (c + 9 * (i : Int) + 6 + 1) = c + 9 * (i : Int) + 7 := by rw [wrap64 ⟨by omega, by omega⟩] <;> omega
    have p7 : IntKind.wrap .i64 (c + 9 * (i : Int) + 7 + 1) = c + 9 * (i : Int) + 8 := by rw [wrap64 ⟨by omega, by omega⟩] <;> omega
    have p8 : IntKind.wrap .i64 (c + 9 * (i : Int) + 8 + 1) = c + 9 * ((i + 1 : Nat) : Int) := by rw [wrap64 ⟨by omega, by omega⟩] <;> omega
    simp only [GSlot.enc, GSlot.mkAt] at hset
    simp [tm, hlt, hg, blk_succ, heap_succ, put_succ, storeM, hat_modify, modify_modify', hlv, hml, hs, get_set, set_set_same, GSlot.enc, hset, hhs, p0, p1, p2, p3, p4, p5, p6, p7, p8]
    exact ⟨i + 1, by omega, by omega, by simp⟩
  · have : i = ws.length := by omega
    subst this
    simp [tm, hg, blk_succ, hml, hat_modify, hlv]
set_option maxHeartbeats 4000000 in
theorem heldSlotS (k : Nat) (n : Nat) (c : Int) (hn : n ≤ 1100000) (hc : 1 ≤ c ∧ c ≤ 800000000) : call code (k + 1) 60 [.rd true (rws GSlot.enc (marks GSlot.mkAt c n)), .int .i64 c] [] = some ⟨.int .i64 (c + 9 * n), [], []⟩ := by
  refine call_run rfl fn60 rfl ?_
  simp [F60]
  refine RunC_loop (fun i : Nat => ⟨tm 102 [(0, .rd true (rws GSlot.enc (marks GSlot.mkAt c n))), (1, .int .i64 (c + 9 * i)), (5, .int .i64 i)], [], []⟩)
    (fun i => i ≤ n) (fun i => n - i) 0 (Nat.zero_le _) (by simp; omega) (by simp [tm]) fun i hi _ => ?_
  by_cases hlt : i < n
  · have hs := idx_succ' hlt (by omega)
    have p0 : IntKind.wrap .i64 (c + 9 * (i : Int) + 1) = c + 9 * (i : Int) + 1 := by rw [wrap64 ⟨by omega, by omega⟩] <;> omega
    have p1 : IntKind.wrap .i64 (c + 9 * (i : Int) + 1 + 1) = c + 9 * (i : Int) + 2 := by rw [wrap64 ⟨by omega, by omega⟩] <;> omega
    have p2 : IntKind.wrap .i64 (c + 9 * (i : Int) + 2 + 1) = c + 9 * (i : Int) + 3 := by rw [wrap64 ⟨by omega, by omega⟩] <;> omega
    have p3 : IntKind.wrap .i64 (c + 9 * (i : Int) + 3 + 1) = c + 9 * (i : Int) + 4 := by rw [wrap64 ⟨by omega, by omega⟩] <;> omega
    have p4 : IntKind.wrap .i64 (c + 9 * (i : Int) + 4 + 1) = c + 9 * (i : Int) + 5 := by rw [wrap64 ⟨by omega, by omega⟩] <;> omega
    have p5 : IntKind.wrap .i64 (c + 9 * (i : Int) + 5 + 1) = c + 9 * (i : Int) + 6 := by rw [wrap64 ⟨by omega, by omega⟩] <;> omega
    have p6 : IntKind.wrap .i64 (c + 9 * (i : Int) + 6 + 1) = c + 9 * (i : Int) + 7 := by rw [wrap64 ⟨by omega, by omega⟩] <;> omega
    have p7 : IntKind.wrap .i64 (c + 9 * (i : Int) + 7 + 1) = c + 9 * (i : Int) + 8 := by rw [wrap64 ⟨by omega, by omega⟩] <;> omega
    have p8 : IntKind.wrap .i64 (c + 9 * (i : Int) + 8 + 1) = c + 9 * ((i + 1 : Nat) : Int) := by rw [wrap64 ⟨by omega, by omega⟩] <;> omega
    simp [tm, hlt, hs, marks_at, GSlot.enc, GSlot.mkAt, p0, p1, p2, p3, p4, p5, p6, p7, p8]
    exact ⟨i + 1, by omega, by omega, by simp⟩
  · have : i = n := by omega
    subst this
    simp [tm]
theorem szInt64S (k : Nat) (l : Int) (ws : List Int) (hl : 0 ≤ l ∧ l ≤ 1048576) (hn : ws.length ≤ 140737488351232) : call code (k + 1) 87 [.rd true (rws encI ws), .int .i64 l] [] = some ⟨.int .i64 (szV l ws.length), [], []⟩ := by
  refine call_run rfl fn87 rfl ?_
  have e1 : IntKind.wrap .i64 (l - (ws.length : Int)) = l - ws.length := wrap64 ⟨by omega, by omega⟩
  cases hd : decide (l - (ws.length : Int) < 0)
  · rw [szV_le (by have := of_decide_eq_false hd; omega)]
    simp [F87, e1, hd]
  · rw [szV_gt (by have := of_decide_eq_true hd; omega)]
    simp [F87, e1, hd]
theorem toBallot (k : Nat) (v0 : Int) (v1 : Int)  : call code (k + 1) 90 [.agg [.int .i64 v0, .int .i64 v1]] [] = some ⟨.agg [.int .i64 v0, .int .i64 v1], [], []⟩ := by
  refine call_run rfl fn90 rfl ?_
  simp [F90, storeM]
theorem toInt64S (k : Nat) (ws : List Int) (hn : ws.length ≤ 1048576) : call code (k + 1) 91 [.rd true (rws encI ws)] [] = some ⟨.sl 0 0 0 [] 0 ws.length, [⟨0, 1, false, true, rws encI ws⟩], []⟩ := by
  refine call_run rfl fn91 rfl ?_
  simp [F91, zeroRow]
  refine ⟨⟨by omega, by omega⟩, ?_⟩
  refine RunC_loop (fun i : Nat => ⟨tm 22 [(0, .rd true (rws encI ws)), (3, .sl 0 66048 0 [] 0 ws.length), (4, .int .i64 i)], [(0, some ⟨0, 1, false, true, []⟩), (66048, some ⟨0, 1, false, true, rws encI (cpy (0 : Int) ws i)⟩)], []⟩)
    (fun i => i ≤ ws.length) (fun i => ws.length - i) 0 (Nat.zero_le _) (by simp; omega) (by simp [tm, rws_cpy, encI]) fun i hi _ => ?_
  have hcl := cpy_len (z := (0 : Int)) hi
  by_cases hlt : i < ws.length
  · have hst : (rws encI (cpy (0 : Int) ws i)).set i (encI ws[i]) = rws encI (cpy (0 : Int) ws (i + 1)) := by rw [rws_set, cpy_set hlt]
    have hs := idx_succ' hlt (by omega)
    simp only [encI] at hst
    simp [tm, hlt, hcl, hst, hs, encI]
    exact ⟨i + 1, by omega, by omega, by simp, rfl⟩
  · have : i = ws.length := by omega
    subst this
    simp [tm, cpy_all]
theorem eqBallot (k : Nat) (v0 : Int) (v1 : Int)  : call code (k + 1) 93 [.agg [.int .i64 v0, .int .i64 v1], .agg [.int .i64 v0, .int .i64 v1]] [] = some ⟨.bool true, [], []⟩ := by
  refine call_run rfl fn93 rfl ?_
  simp [F93, storeM]
theorem eqInc (k : Nat) (v0 : Int) (v1 : Int) (v2 : Int) (v3 : Int)  : call code (k + 1) 94 [.agg [.int .i64 v0, .int .i64 v1, .int .i64 v2, .int .i64 v3], .agg [.int .i64 v0, .int .i64 v1, .int .i64 v2, .int .i64 v3]] [] = some ⟨.bool true, [], []⟩ := by
  refine call_run rfl fn94 rfl ?_
  simp [F94, storeM]
theorem eqInt64S (k : Nat) (ws : List Int) (hn : ws.length ≤ 1048576000) : call code (k + 1) 95 [.rd true (rws encI ws), .rd true (rws encI ws)] [] = some ⟨.bool true, [], []⟩ := by
  refine call_run rfl fn95 rfl ?_
  simp [F95]
  refine RunC_loop (fun i : Nat => ⟨tm 26 [(0, .rd true (rws encI ws)), (1, .rd true (rws encI ws)), (5, .int .i64 i)], [], []⟩)
    (fun i => i ≤ ws.length) (fun i => ws.length - i) 0 (Nat.zero_le _) (by simp; omega) (by simp [tm]) fun i hi _ => ?_
  by_cases hlt : i < ws.length
  · have hs := idx_succ' hlt (by omega)
    simp [tm, hlt, hs, encI]
    exact ⟨i + 1, by omega, by omega, by simp⟩
  · have : i = ws.length := by omega
    subst this
    simp [tm]
set_option maxHeartbeats 4000000 in
theorem markInt64S (k lv : Nat) (E : List Heap) (S : Nat) (ws : List Int) (c : Int) (hn : ws.length ≤ 1100000) (hc : 1 ≤ c ∧ c ≤ 800000000) (hlv : lv < E.length) (hl : (hat E lv).get S = some (some ⟨0, 1, false, true, rws encI ws⟩)) :
    call code (k + 1) 96 [.sl (lv + 1) S 0 [] 0 ws.length, .int .i64 c] E = some ⟨.int .i64 (c + ws.length), [], E.modify lv fun h => hp h S (mblk encI 1 mkI c ws) ws.length⟩ := by
  refine call_run rfl fn96 rfl ?_
  simp [F96]
  refine RunC_loop (fun i : Nat => ⟨tm 19 [(0, .sl (lv + 1) S 0 [] 0 ws.length), (1, .int .i64 (c + i)), (5, .int .i64 i)], [], E.modify lv fun h => hp h S (mblk encI 1 mkI c ws) i⟩)
    (fun i => i ≤ ws.length) (fun i => ws.length - i) 0 (Nat.zero_le _) (by simp; omega) (by simp [tm, hp_zero, modify_id']) fun i hi _ => ?_
  have hg : (hp (hat E lv) S (mblk encI 1 mkI c ws) i).get S = some (some ⟨0, 1, false, true, rws encI (mix (mkI c) ws i)⟩) := hp_get (by rw [mblk_zero]; exact hl) i
  have hml := mix_len (f := mkI c) hi
  by_cases hlt : i < ws.length
  · have hs := idx_succ' hlt (by omega)
    have hset : (rws encI (mix (mkI c) ws i)).set i (encI (mkI c i)) = rws encI (mix (mkI c) ws (i + 1)) := by rw [rws_set, mix_set hlt]
    have hhs : ∀ h : Heap, (hp h S (mblk encI 1 mkI c ws) i).set S (some ⟨0, 1, false, true, rws encI (mix (mkI c) ws (i + 1))⟩) = hp h S (mblk encI 1 mkI c ws) (i + 1) := fun h => hp_set i
    have p0 : IntKind.wrap .i64 (c + (i : Int) + 1) = c + ((i + 1 : Nat) : Int) := by rw [wrap64 ⟨by omega, by omega⟩] <;> omega
    simp only [encI, mkI] at hset
    simp [tm, hlt, hg, blk_succ, heap_succ, put_succ, storeM, hat_modify, modify_modify', hlv, hml, hs, get_set, set_set_same, encI, hset, hhs, p0]
    exact ⟨i + 1, by omega, by omega, by simp⟩
  · have : i = ws.length := by omega
    subst this
    simp [tm, hg, blk_succ, hml, hat_modify, hlv]
set_option maxHeartbeats 4000000 in
theorem heldInt64S (k : Nat) (n : Nat) (c : Int) (hn : n ≤ 1100000) (hc : 1 ≤ c ∧ c ≤ 800000000) : call code (k + 1) 97 [.rd true (rws encI (marks mkI c n)), .int .i64 c] [] = some ⟨.int .i64 (c + n), [], []⟩ := by
  refine call_run rfl fn97 rfl ?_
  simp [F97]
  refine RunC_loop (fun i : Nat => ⟨tm 21 [(0, .rd true (rws encI (marks mkI c n))), (1, .int .i64 (c + i)), (5, .int .i64 i)], [], []⟩)
    (fun i => i ≤ n) (fun i => n - i) 0 (Nat.zero_le _) (by simp; omega) (by simp [tm]) fun i hi _ => ?_
  by_cases hlt : i < n
  · have hs := idx_succ' hlt (by omega)
    have p0 : IntKind.wrap .i64 (c + (i : Int) + 1) = c + ((i + 1 : Nat) : Int) := by rw [wrap64 ⟨by omega, by omega⟩] <;> omega
    simp [tm, hlt, hs, marks_at, encI, mkI, p0]
    exact ⟨i + 1, by omega, by omega, by simp⟩
  · have : i = n := by omega
    subst this
    simp [tm]
theorem szTry (k : Nat) (l : Int) (v0 : Int) (v1 : Int) (v2 : Int) (v3 : Int) (v4 : Int) (v5 : Int) (v6 : Int) (v7 : Int) (v8 : Int) (v9 : List Int) (v10 : List Int) (v11 : Bool) (hl : 0 ≤ l ∧ l ≤ 1048576) (b9 : v9.length ≤ 140737488351232) (b10 : v10.length ≤ 140737488351232) : call code (k + 2) 52 [.agg [.int .i64 v0, .int .i64 v1, .int .i64 v2, .int .i64 v3, .int .i64 v4, .int .i64 v5, .int .i64 v6, .int .i64 v7, .int .i64 v8, .rd true (rws encI v9), .rd true (rws encI v10), .bool v11], .int .i64 l] [] = some ⟨.int .i64 (szV l (v9.length + v10.length)), [], []⟩ := by
  refine call_run rfl fn52 rfl ?_
  have e0 := fun k => szInt64S k (l) v9 ⟨by omega, by omega⟩ b9
  cases d0 : decide (szV (l) v9.length < 0)
  rotate_left
  · obtain ⟨a0, z0⟩ := szV_neg d0 (by omega)
    rw [z0] at e0
    have hr : szV l (v9.length + v10.length) = -1 := szV_gt (by omega)
    rw [hr]; simp [F52, rcall87, e0]
  obtain ⟨a0, z0⟩ := szV_pos d0 (by omega)
  rw [z0] at e0 d0
  try simp only [Int.natCast_add] at e0 d0
  have e1 := fun k => szInt64S k (l - ((v9.length : Nat) : Int)) v10 ⟨by omega, by omega⟩ b10
  cases d1 : decide (szV (l - ((v9.length : Nat) : Int)) v10.length < 0)
  rotate_left
  · obtain ⟨a1, z1⟩ := szV_neg d1 (by omega)
    rw [z1] at e1
    have hr : szV l (v9.length + v10.length) = -1 := szV_gt (by omega)
    rw [hr]; simp [F52, rcall87, e0, d0, e1]
  obtain ⟨a1, z1⟩ := szV_pos d1 (by omega)
  rw [z1] at e1 d1
  try simp only [Int.natCast_add] at e1 d1
  have hr : szV l (v9.length + v10.length) = l - ((v9.length : Nat) : Int) - ((v10.length : Nat) : Int) := by rw [szV_le (by omega)] <;> omega
  rw [hr]; simp [F52, rcall87, e0, d0, e1, d1]
theorem toTry (k : Nat) (v0 : Int) (v1 : Int) (v2 : Int) (v3 : Int) (v4 : Int) (v5 : Int) (v6 : Int) (v7 : Int) (v8 : Int) (v9 : List Int) (v10 : List Int) (v11 : Bool) (hv9 : v9.length ≤ 1048576) (hv10 : v10.length ≤ 1048576) : call code (k + 2) 55 [.agg [.int .i64 v0, .int .i64 v1, .int .i64 v2, .int .i64 v3, .int .i64 v4, .int .i64 v5, .int .i64 v6, .int .i64 v7, .int .i64 v8, .rd true (rws encI v9), .rd true (rws encI v10), .bool v11]] [] = some ⟨.agg [.int .i64 v0, .int .i64 v1, .int .i64 v2, .int .i64 v3, .int .i64 v4, .int .i64 v5, .int .i64 v6, .int .i64 v7, .int .i64 v8, .sl 0 0 0 [] 0 v9.length, .sl 0 1 0 [] 0 v10.length, .bool v11], [⟨0, 1, false, true, rws encI v9⟩, ⟨0, 1, false, true, rws encI v10⟩], []⟩ := by
  refine call_run rfl fn55 rfl ?_
  have q0 := toBallot
  have q1 := toInc
  have q2 := toBallot
  have q3 := fun k => toInt64S k v9 hv9
  have q4 := fun k => toInt64S k v10 hv10
  simp [F55, rcall90, rcall25, rcall91, q0, q1, q2, q3, q4, storeM]
theorem eqTry (k : Nat) (v0 : Int) (v1 : Int) (v2 : Int) (v3 : Int) (v4 : Int) (v5 : Int) (v6 : Int) (v7 : Int) (v8 : Int) (v9 : List Int) (v10 : List Int) (v11 : Bool) (hv9 : v9.length ≤ 1048576000) (hv10 : v10.length ≤ 1048576000) : call code (k + 2) 57 [.agg [.int .i64 v0, .int .i64 v1, .int .i64 v2, .int .i64 v3, .int .i64 v4, .int .i64 v5, .int .i64 v6, .int .i64 v7, .int .i64 v8, .rd true (rws encI v9), .rd true (rws encI v10), .bool v11], .agg [.int .i64 v0, .int .i64 v1, .int .i64 v2, .int .i64 v3, .int .i64 v4, .int .i64 v5, .int .i64 v6, .int .i64 v7, .int .i64 v8, .rd true (rws encI v9), .rd true (rws encI v10), .bool v11]] [] = some ⟨.bool true, [], []⟩ := by
  refine call_run rfl fn57 rfl ?_
  have q0 := eqBallot
  have q1 := eqInc
  have q2 := eqBallot
  have q3 := fun k => eqInt64S k v9 hv9
  have q4 := fun k => eqInt64S k v10 hv10
  simp [F57, rcall93, rcall94, rcall95, q0, q1, q2, q3, q4, storeM]
set_option maxHeartbeats 4000000 in
theorem markTry (k lv : Nat) (E : List Heap) (v0 : Int) (v1 : Int) (v2 : Int) (v3 : Int) (v4 : Int) (v5 : Int) (v6 : Int) (v7 : Int) (v8 : Int) (v9 : List Int) (v10 : List Int) (v11 : Bool) (S9 : Nat) (S10 : Nat) (c : Int) (hc : 1 ≤ c ∧ c ≤ 400000000) (hlv : lv < E.length) (nv9 : v9.length ≤ 1100000) (nv10 : v10.length ≤ 1100000) (gv9 : (hat E lv).get S9 = some (some ⟨0, 1, false, true, rws encI v9⟩)) (gv10 : (hat E lv).get S10 = some (some ⟨0, 1, false, true, rws encI v10⟩)) (nev9v10 : S10 ≠ S9) :
    call code (k + 2) 59 [.agg [.int .i64 v0, .int .i64 v1, .int .i64 v2, .int .i64 v3, .int .i64 v4, .int .i64 v5, .int .i64 v6, .int .i64 v7, .int .i64 v8, .sl (lv + 1) S9 0 [] 0 v9.length, .sl (lv + 1) S10 0 [] 0 v10.length, .bool v11], .int .i64 c] E = some ⟨.int .i64 (c + v9.length + v10.length), [], E.modify lv fun h => hp (hp (h) S9 (mblk encI 1 mkI (c) v9) v9.length) S10 (mblk encI 1 mkI (c + v9.length) v10) v10.length⟩ := by
  refine call_run rfl fn59 rfl ?_
  have q0 := fun k l0 => markInt64S k (lv + 1) (l0 :: E) S9 v9 (c) nv9 (by omega) (by simp; omega) (by simpa using gv9)
  have q1 := fun k l0 => markInt64S k (lv + 1) (l0 :: E.modify lv fun h => hp (h) S9 (mblk encI 1 mkI (c) v9) v9.length) S10 v10 (c + v9.length) nv10 (by omega) (by simp; omega) (by rw [show hat (l0 :: E.modify lv fun h => hp (h) S9 (mblk encI 1 mkI (c) v9) v9.length) (lv + 1) = hat (E.modify lv fun h => hp (h) S9 (mblk encI 1 mkI (c) v9) v9.length) lv from rfl, hat_modify hlv]; rw [hp_ne nev9v10]; exact gv10)
  simp [F59, rcall96, q0, q1, storeM, modify_modify', hlv]
set_option maxHeartbeats 4000000 in
theorem heldTry (k : Nat) (v0 : Int) (v1 : Int) (v2 : Int) (v3 : Int) (v4 : Int) (v5 : Int) (v6 : Int) (v7 : Int) (v8 : Int) (n9 : Nat) (n10 : Nat) (v11 : Bool) (c : Int) (hc : 1 ≤ c ∧ c ≤ 400000000) (hv9 : n9 ≤ 1100000) (hv10 : n10 ≤ 1100000) : call code (k + 2) 61 [.agg [.int .i64 v0, .int .i64 v1, .int .i64 v2, .int .i64 v3, .int .i64 v4, .int .i64 v5, .int .i64 v6, .int .i64 v7, .int .i64 v8, .rd true (rws encI (marks mkI (c) n9)), .rd true (rws encI (marks mkI (c + n9) n10)), .bool v11], .int .i64 c] [] = some ⟨.int .i64 (c + n9 + n10), [], []⟩ := by
  refine call_run rfl fn61 rfl ?_
  have q0 := fun k => heldInt64S k n9 (c) hv9 (by omega)
  have d0 : decide (c + (n9 : Int) < 0) = false := by simp; omega
  have q1 := fun k => heldInt64S k n10 (c + n9) hv10 (by omega)
  have d1 : decide (c + (n9 : Int) + (n10 : Int) < 0) = false := by simp; omega
  simp [F61, rcall97, q0, d0, q1, d1]
theorem toSlot (k : Nat) (v0 : Int) (v1 : Int) (v2 : Int) (v3 : Int) (v4 : Int) (v5 : Int) (v6 : Int) (v7 : Int) (v8 : Int)  : call code (k + 2) 89 [.agg [.int .i64 v0, .int .i64 v1, .int .i64 v2, .int .i64 v3, .int .i64 v4, .int .i64 v5, .int .i64 v6, .int .i64 v7, .int .i64 v8]] [] = some ⟨.agg [.int .i64 v0, .int .i64 v1, .int .i64 v2, .int .i64 v3, .int .i64 v4, .int .i64 v5, .int .i64 v6, .int .i64 v7, .int .i64 v8], [], []⟩ := by
  refine call_run rfl fn89 rfl ?_
  have q0 := toBallot
  have q1 := toBallot
  have q2 := toInc
  simp [F89, rcall90, rcall25, q0, q1, q2, storeM]
theorem eqSlot (k : Nat) (v0 : Int) (v1 : Int) (v2 : Int) (v3 : Int) (v4 : Int) (v5 : Int) (v6 : Int) (v7 : Int) (v8 : Int)  : call code (k + 2) 92 [.agg [.int .i64 v0, .int .i64 v1, .int .i64 v2, .int .i64 v3, .int .i64 v4, .int .i64 v5, .int .i64 v6, .int .i64 v7, .int .i64 v8], .agg [.int .i64 v0, .int .i64 v1, .int .i64 v2, .int .i64 v3, .int .i64 v4, .int .i64 v5, .int .i64 v6, .int .i64 v7, .int .i64 v8]] [] = some ⟨.bool true, [], []⟩ := by
  refine call_run rfl fn92 rfl ?_
  have q0 := eqBallot
  have q1 := eqBallot
  have q2 := eqInc
  simp [F92, rcall93, rcall94, q0, q1, q2, storeM]
theorem szMon (k : Nat) (l : Int) (v0 : Int) (v1 : Int) (v2 : List GSlot) (v3 : Int) (v4 : Int) (v5 : Int) (v6 : Int) (v7 : Int) (v8 : Int) (v9 : Int) (v10 : Int) (v11 : Int) (v12 : List Int) (v13 : List Int) (v14 : Bool) (hl : 0 ≤ l ∧ l ≤ 1048576) (b2 : v2.length ≤ 140737488351232) (b12 : v12.length ≤ 140737488351232) (b13 : v13.length ≤ 140737488351232) : call code (k + 3) 17 [.agg [.int .i64 v0, .int .i64 v1, .rd true (rws GSlot.enc v2), .int .i64 v3, .int .i64 v4, .int .i64 v5, .int .i64 v6, .int .i64 v7, .int .i64 v8, .int .i64 v9, .int .i64 v10, .int .i64 v11, .rd true (rws encI v12), .rd true (rws encI v13), .bool v14], .int .i64 l] [] = some ⟨.int .i64 (szV l (v2.length + (v12.length + v13.length))), [], []⟩ := by
  refine call_run rfl fn17 rfl ?_
  have e0 := fun k => szSlotS k (l) v2 ⟨by omega, by omega⟩ b2
  cases d0 : decide (szV (l) v2.length < 0)
  rotate_left
  · obtain ⟨a0, z0⟩ := szV_neg d0 (by omega)
    rw [z0] at e0
    have hr : szV l (v2.length + (v12.length + v13.length)) = -1 := szV_gt (by omega)
    rw [hr]; simp [F17, rcall51, rcall52, e0]
  obtain ⟨a0, z0⟩ := szV_pos d0 (by omega)
  rw [z0] at e0 d0
  try simp only [Int.natCast_add] at e0 d0
  have e1 := fun k => szTry k (l - ((v2.length : Nat) : Int)) v3 v4 v5 v6 v7 v8 v9 v10 v11 v12 v13 v14 ⟨by omega, by omega⟩ b12 b13
  cases d1 : decide (szV (l - ((v2.length : Nat) : Int)) (v12.length + v13.length) < 0)
  rotate_left
  · obtain ⟨a1, z1⟩ := szV_neg d1 (by omega)
    rw [z1] at e1
    have hr : szV l (v2.length + (v12.length + v13.length)) = -1 := szV_gt (by omega)
    rw [hr]; simp [F17, rcall51, rcall52, e0, d0, e1]
  obtain ⟨a1, z1⟩ := szV_pos d1 (by omega)
  rw [z1] at e1 d1
  try simp only [Int.natCast_add] at e1 d1
  have hr : szV l (v2.length + (v12.length + v13.length)) = l - ((v2.length : Nat) : Int) - (((v12.length + v13.length) : Nat) : Int) := by rw [szV_le (by omega)] <;> omega
  rw [hr]; simp [F17, rcall51, rcall52, e0, d0, e1, d1]
set_option maxHeartbeats 4000000 in
theorem markMon (k lv : Nat) (E : List Heap) (v0 : Int) (v1 : Int) (v2 : List GSlot) (v3 : Int) (v4 : Int) (v5 : Int) (v6 : Int) (v7 : Int) (v8 : Int) (v9 : Int) (v10 : Int) (v11 : Int) (v12 : List Int) (v13 : List Int) (v14 : Bool) (S2 : Nat) (S12 : Nat) (S13 : Nat) (c : Int) (hc : 1 ≤ c ∧ c ≤ 200000000) (hlv : lv < E.length) (nv2 : v2.length ≤ 1100000) (nv12 : v12.length ≤ 1100000) (nv13 : v13.length ≤ 1100000) (gv2 : (hat E lv).get S2 = some (some ⟨0, 9, false, true, rws GSlot.enc v2⟩)) (gv12 : (hat E lv).get S12 = some (some ⟨0, 1, false, true, rws encI v12⟩)) (gv13 : (hat E lv).get S13 = some (some ⟨0, 1, false, true, rws encI v13⟩)) (nev2v12 : S12 ≠ S2) (nev2v13 : S13 ≠ S2) (nev12v13 : S13 ≠ S12) :
    call code (k + 3) 22 [.agg [.int .i64 v0, .int .i64 v1, .sl (lv + 1) S2 0 [] 0 v2.length, .int .i64 v3, .int .i64 v4, .int .i64 v5, .int .i64 v6, .int .i64 v7, .int .i64 v8, .int .i64 v9, .int .i64 v10, .int .i64 v11, .sl (lv + 1) S12 0 [] 0 v12.length, .sl (lv + 1) S13 0 [] 0 v13.length, .bool v14], .int .i64 c] E = some ⟨.int .i64 (c + 9 * v2.length + v12.length + v13.length), [], E.modify lv fun h => hp (hp (hp (h) S2 (mblk GSlot.enc 9 GSlot.mkAt (c) v2) v2.length) S12 (mblk encI 1 mkI (c + 9 * v2.length) v12) v12.length) S13 (mblk encI 1 mkI (c + 9 * v2.length + v12.length) v13) v13.length⟩ := by
  refine call_run rfl fn22 rfl ?_
  have q0 := fun k l0 => markSlotS k (lv + 1) (l0 :: E) S2 v2 (c) nv2 (by omega) (by simp; omega) (by simpa using gv2)
  have q1 := fun k l0 => markTry k (lv + 1) (l0 :: E.modify lv fun h => hp (h) S2 (mblk GSlot.enc 9 GSlot.mkAt (c) v2) v2.length) v3 v4 v5 v6 v7 v8 v9 v10 v11 v12 v13 v14 S12 S13 (c + 9 * v2.length) (by omega) (by simp; omega) nv12 nv13 (by rw [show hat (l0 :: E.modify lv fun h => hp (h) S2 (mblk GSlot.enc 9 GSlot.mkAt (c) v2) v2.length) (lv + 1) = hat (E.modify lv fun h => hp (h) S2 (mblk GSlot.enc 9 GSlot.mkAt (c) v2) v2.length) lv from rfl, hat_modify hlv]; rw [hp_ne nev2v12]; exact gv12) (by rw [show hat (l0 :: E.modify lv fun h => hp (h) S2 (mblk GSlot.enc 9 GSlot.mkAt (c) v2) v2.length) (lv + 1) = hat (E.modify lv fun h => hp (h) S2 (mblk GSlot.enc 9 GSlot.mkAt (c) v2) v2.length) lv from rfl, hat_modify hlv]; rw [hp_ne nev2v13]; exact gv13) nev12v13
  simp [F22, rcall58, rcall59, q0, q1, storeM, modify_modify', hlv]
set_option maxHeartbeats 4000000 in
theorem heldMon (k : Nat) (v0 : Int) (v1 : Int) (n2 : Nat) (v3 : Int) (v4 : Int) (v5 : Int) (v6 : Int) (v7 : Int) (v8 : Int) (v9 : Int) (v10 : Int) (v11 : Int) (n12 : Nat) (n13 : Nat) (v14 : Bool) (c : Int) (hc : 1 ≤ c ∧ c ≤ 200000000) (hv2 : n2 ≤ 1100000) (hv12 : n12 ≤ 1100000) (hv13 : n13 ≤ 1100000) : call code (k + 3) 23 [.agg [.int .i64 v0, .int .i64 v1, .rd true (rws GSlot.enc (marks GSlot.mkAt (c) n2)), .int .i64 v3, .int .i64 v4, .int .i64 v5, .int .i64 v6, .int .i64 v7, .int .i64 v8, .int .i64 v9, .int .i64 v10, .int .i64 v11, .rd true (rws encI (marks mkI (c + 9 * n2) n12)), .rd true (rws encI (marks mkI (c + 9 * n2 + n12) n13)), .bool v14], .int .i64 c] [] = some ⟨.int .i64 (c + 9 * n2 + n12 + n13), [], []⟩ := by
  refine call_run rfl fn23 rfl ?_
  have q0 := fun k => heldSlotS k n2 (c) hv2 (by omega)
  have d0 : decide (c + 9 * (n2 : Int) < 0) = false := by simp; omega
  have q1 := fun k => heldTry k v3 v4 v5 v6 v7 v8 v9 v10 v11 n12 n13 v14 (c + 9 * n2) (by omega) hv12 hv13
  have d1 : decide (c + 9 * (n2 : Int) + (n12 : Int) + (n13 : Int) < 0) = false := by simp; omega
  simp [F23, rcall60, rcall61, q0, d0, q1, d1]
theorem toSlotS (k : Nat) (ws : List GSlot) (hn : ws.length ≤ 1048576) : call code (k + 3) 54 [.rd true (rws GSlot.enc ws)] [] = some ⟨.sl 0 0 0 [] 0 ws.length, [⟨0, 9, false, true, rws GSlot.enc ws⟩], []⟩ := by
  refine call_run rfl fn54 rfl ?_
  simp [F54, zeroRow]
  refine ⟨⟨by omega, by omega⟩, ?_⟩
  refine RunC_loop (fun i : Nat => ⟨tm 23 [(0, .rd true (rws GSlot.enc ws)), (3, .sl 0 66048 0 [] 0 ws.length), (4, .int .i64 i)], [(0, some ⟨0, 9, false, true, []⟩), (66048, some ⟨0, 9, false, true, rws GSlot.enc (cpy GSlot.zero ws i)⟩)], []⟩)
    (fun i => i ≤ ws.length) (fun i => ws.length - i) 0 (Nat.zero_le _) (by simp; omega) (by simp [tm, rws_cpy, GSlot.enc, GSlot.zero]) fun i hi _ => ?_
  have hcl := cpy_len (z := GSlot.zero) hi
  by_cases hlt : i < ws.length
  · have hst : (rws GSlot.enc (cpy GSlot.zero ws i)).set i (GSlot.enc ws[i]) = rws GSlot.enc (cpy GSlot.zero ws (i + 1)) := by rw [rws_set, cpy_set hlt]
    have hs := idx_succ' hlt (by omega)
    simp only [GSlot.enc] at hst
    simp [tm, hlt, hcl, hst, hs, GSlot.enc, rcall89, toSlot]
    exact ⟨i + 1, by omega, by omega, by simp, rfl⟩
  · have : i = ws.length := by omega
    subst this
    simp [tm, cpy_all]
theorem eqSlotS (k : Nat) (ws : List GSlot) (hn : ws.length ≤ 1048576000) : call code (k + 3) 56 [.rd true (rws GSlot.enc ws), .rd true (rws GSlot.enc ws)] [] = some ⟨.bool true, [], []⟩ := by
  refine call_run rfl fn56 rfl ?_
  simp [F56]
  refine RunC_loop (fun i : Nat => ⟨tm 27 [(0, .rd true (rws GSlot.enc ws)), (1, .rd true (rws GSlot.enc ws)), (5, .int .i64 i)], [], []⟩)
    (fun i => i ≤ ws.length) (fun i => ws.length - i) 0 (Nat.zero_le _) (by simp; omega) (by simp [tm]) fun i hi _ => ?_
  by_cases hlt : i < ws.length
  · have hs := idx_succ' hlt (by omega)
    simp [tm, hlt, hs, GSlot.enc, rcall92, eqSlot]
    exact ⟨i + 1, by omega, by omega, by simp⟩
  · have : i = ws.length := by omega
    subst this
    simp [tm]
theorem toMon (k : Nat) (v0 : Int) (v1 : Int) (v2 : List GSlot) (v3 : Int) (v4 : Int) (v5 : Int) (v6 : Int) (v7 : Int) (v8 : Int) (v9 : Int) (v10 : Int) (v11 : Int) (v12 : List Int) (v13 : List Int) (v14 : Bool) (hv2 : v2.length ≤ 1048576) (hv12 : v12.length ≤ 1048576) (hv13 : v13.length ≤ 1048576) : call code (k + 4) 19 [.agg [.int .i64 v0, .int .i64 v1, .rd true (rws GSlot.enc v2), .int .i64 v3, .int .i64 v4, .int .i64 v5, .int .i64 v6, .int .i64 v7, .int .i64 v8, .int .i64 v9, .int .i64 v10, .int .i64 v11, .rd true (rws encI v12), .rd true (rws encI v13), .bool v14]] [] = some ⟨.agg [.int .i64 v0, .int .i64 v1, .sl 0 0 0 [] 0 v2.length, .int .i64 v3, .int .i64 v4, .int .i64 v5, .int .i64 v6, .int .i64 v7, .int .i64 v8, .int .i64 v9, .int .i64 v10, .int .i64 v11, .sl 0 1 0 [] 0 v12.length, .sl 0 2 0 [] 0 v13.length, .bool v14], [⟨0, 9, false, true, rws GSlot.enc v2⟩, ⟨0, 1, false, true, rws encI v12⟩, ⟨0, 1, false, true, rws encI v13⟩], []⟩ := by
  refine call_run rfl fn19 rfl ?_
  have q0 := fun k => toSlotS k v2 hv2
  have q1 := fun k => toTry k v3 v4 v5 v6 v7 v8 v9 v10 v11 v12 v13 v14 hv12 hv13
  simp [F19, rcall54, rcall55, q0, q1, storeM]
theorem eqMon (k : Nat) (v0 : Int) (v1 : Int) (v2 : List GSlot) (v3 : Int) (v4 : Int) (v5 : Int) (v6 : Int) (v7 : Int) (v8 : Int) (v9 : Int) (v10 : Int) (v11 : Int) (v12 : List Int) (v13 : List Int) (v14 : Bool) (hv2 : v2.length ≤ 1048576000) (hv12 : v12.length ≤ 1048576000) (hv13 : v13.length ≤ 1048576000) : call code (k + 4) 21 [.agg [.int .i64 v0, .int .i64 v1, .rd true (rws GSlot.enc v2), .int .i64 v3, .int .i64 v4, .int .i64 v5, .int .i64 v6, .int .i64 v7, .int .i64 v8, .int .i64 v9, .int .i64 v10, .int .i64 v11, .rd true (rws encI v12), .rd true (rws encI v13), .bool v14], .agg [.int .i64 v0, .int .i64 v1, .rd true (rws GSlot.enc v2), .int .i64 v3, .int .i64 v4, .int .i64 v5, .int .i64 v6, .int .i64 v7, .int .i64 v8, .int .i64 v9, .int .i64 v10, .int .i64 v11, .rd true (rws encI v12), .rd true (rws encI v13), .bool v14]] [] = some ⟨.bool true, [], []⟩ := by
  refine call_run rfl fn21 rfl ?_
  have q0 := fun k => eqSlotS k v2 hv2
  have q1 := fun k => eqTry k v3 v4 v5 v6 v7 v8 v9 v10 v11 v12 v13 v14 hv12 hv13
  simp [F21, rcall56, rcall57, q0, q1, storeM]
end Go.Ae.E1
