/- Matrices that come in: measured, copied, looked at. -/
import Derived.Test.YtppcbpmnfahnkaaM2M1
import Derived.Test.YtppcbpmnfahnkaaAeL6
import Derived.Test.YtppcbpmnfahnkaaM2Code
namespace Go.Ae.M2
set_option linter.unusedSimpArgs false
set_option linter.unusedVariables false
@[simp] theorem evalW_callv (O : Oracle) (md : Nat → Mode) (st : St) (base : Nat) (x : X) (args : List X) (fl : Bool) : evalW O md st base (.callv x args fl) = match evalX st x with
    | .fn f caps => match md f with
      | .val => match callVal O st base f (evalXs st args ++ caps) fl with
        | some (v, n) => match addNews st n with
          | some st' => some (v, st')
          | none => none
        | none => none
      | .view => match callView O st f (evalXs st args ++ caps) with
        | some v => some (v, st)
        | none => none
      | .ref => callRef O st base f (evalXs st args ++ caps) fl
    | _ => none := rfl
theorem md61 : code.md 61 = .val := rfl
theorem between (k : Nat) (a b c : Int) : call code (k + 1) 30 [.int .i64 a, .int .i64 b, .int .i64 c] [] = some ⟨.bool (inB a b c), [], []⟩ := by
  refine call_run rfl fn30 rfl ?_
  simp [F30]
  repeat' ((first | apply RunG_ncase | apply RunB_ncase | apply RunG_case | apply RunB_case | apply RunP_case) <;> intro h <;> simp [h])
  all_goals (simp_all [inB] <;> omega)
theorem l00In (k : Nat) (a b c : Int) : call code (k + 1) 59 [.int .i64 a, .int .i64 b, .int .i64 c] [] = some ⟨.bool (inB a b c), [], []⟩ := by
  refine call_run rfl fn59 rfl ?_
  simp [F59]
  repeat' ((first | apply RunG_ncase | apply RunB_ncase | apply RunG_case | apply RunB_case | apply RunP_case) <;> intro h <;> simp [h])
  all_goals (simp_all [inB] <;> omega)
def elB (c : Int) : Bool := inB c 0 255
theorem l02Byte (k : Nat) (c : Int) : call code (k + 2) 60 [.int .i64 c] [] = some ⟨.bool (elB c), [], []⟩ := by
  refine call_run rfl fn60 rfl ?_
  simp [F60, rcall59, l00In, elB]
theorem isElement (k : Nat) (c : Int) : call code (k + 2) 62 [.int .i64 c] [] = some ⟨.bool (elB c), [], []⟩ := by
  refine call_run rfl fn62 rfl ?_
  simp [F62, rcall30, between, elB]
theorem notElement (k : Nat) (c : Int) : call code (k + 3) 61 [.int .i64 c] [] = some ⟨.bool (!elB c), [], []⟩ := by
  refine call_run rfl fn61 rfl ?_
  simp [F61, rcall62, isElement]
theorem indexFunc (k : Nat) (ws : List Int) (hn : ws.length ≤ 1048576) : ∃ r : Int, call code (k + 4) 64 [.rd true (rowsZ ws), .fn 61 []] [] = some ⟨.int .i64 r, [], []⟩ ∧ decide (0 ≤ r) = !(ws.all elB) := by
  have hrl := rowsZ_len ws
  cases ha : ws.all elB
  · obtain ⟨i0, hi0, hbad, hmin⟩ : ∃ (i : Nat) (h : i < ws.length), elB ws[i] = false ∧ ∀ j (hj : j < i), elB (ws[j]'(by omega)) = true := by
      have hex : ∃ i, ∃ h : i < ws.length, elB ws[i] = false := by
        rw [List.all_eq_false] at ha
        obtain ⟨x, hx, hb⟩ := ha
        obtain ⟨i, hi, rfl⟩ := List.getElem_of_mem hx
        exact ⟨i, hi, by simpa using hb⟩
      obtain ⟨n, ⟨h1, h2⟩, h3⟩ := least hex
      refine ⟨n, h1, h2, fun j hj => ?_⟩
      cases hb : elB (ws[j]'(by omega)) with
      | true => rfl
      | false => exact absurd (h3 j ⟨by omega, hb⟩) (by omega)
    refine ⟨i0, call_run rfl fn64 rfl ?_, by simp⟩
    simp [F64, hrl]
    refine RunC_loop (fun i : Nat => ⟨[.rd true (rowsZ ws), .fn 61 [], .undef, .undef, .undef, .undef, .undef, .int .i64 ws.length, .int .i64 i] ++ List.replicate 10 .undef, [], []⟩)
      (fun i => i ≤ i0) (fun i => ws.length - i) 0 (Nat.zero_le _) (by simp; omega) (by simp) fun i hi _ => ?_
    have hlt : i < ws.length := by omega
    have hg : ∀ h, (rowsZ ws)[i]'h = [AV.int .i64 ws[i]] := fun h => rowsZ_at hlt h
    have hs : IntKind.wrap .i64 ((i : Int) + 1) = ((i + 1 : Nat) : Int) := by rw [wrap64 ⟨by omega, by omega⟩]; omega
    by_cases hii : i = i0
    · subst hii
      simp [hlt, hrl, hg, md61, notElement, hbad]
    · have hgood := hmin i (by omega)
      simp [hlt, hrl, hg, md61, notElement, hgood, hs]
      exact ⟨i + 1, by omega, by omega, by simp⟩
  · refine ⟨-1, call_run rfl fn64 rfl ?_, by simp⟩
    simp [F64, hrl]
    refine RunC_loop (fun i : Nat => ⟨[.rd true (rowsZ ws), .fn 61 [], .undef, .undef, .undef, .undef, .undef, .int .i64 ws.length, .int .i64 i] ++ List.replicate 10 .undef, [], []⟩)
      (fun i => i ≤ ws.length) (fun i => ws.length - i) 0 (Nat.zero_le _) (by simp; omega) (by simp) fun i hi _ => ?_
    by_cases hlt : i < ws.length
    · have hg : ∀ h, (rowsZ ws)[i]'h = [AV.int .i64 ws[i]] := fun h => rowsZ_at hlt h
      have hs : IntKind.wrap .i64 ((i : Int) + 1) = ((i + 1 : Nat) : Int) := by rw [wrap64 ⟨by omega, by omega⟩]; omega
      have hgood : elB ws[i] = true := List.all_eq_true.1 ha _ (List.getElem_mem hlt)
      simp [hlt, hrl, hg, md61, notElement, hgood, hs]
      exact ⟨i + 1, by omega, by omega, by simp⟩
    · have : i = ws.length := by omega
      subst this
      simp
theorem containsFunc (k : Nat) (ws : List Int) (hn : ws.length ≤ 1048576) : call code (k + 5) 42 [.rd true (rowsZ ws), .fn 61 []] [] = some ⟨.bool (!(ws.all elB)), [], []⟩ := by
  refine call_run rfl fn42 rfl ?_
  obtain ⟨r, h1, h2⟩ := indexFunc k ws hn
  simp [F42, rcall64, h1, h2]
end Go.Ae.M2
namespace Go.Ae.M2
set_option linter.unusedSimpArgs false
set_option linter.unusedVariables false
def castL (l : List Nat) : List Int := l.map fun (n : Nat) => (n : Int)
theorem getD_lt {an : List Nat} (h : ∀ x ∈ an, x < 256) (i : Nat) : an.getD i 0 < 256 := by
  by_cases hi : i < an.length
  · rw [List.getD_eq_getElem?_getD, List.getElem?_eq_getElem hi]; exact h _ (List.getElem_mem hi)
  · rw [List.getD_eq_getElem?_getD, List.getElem?_eq_none (by omega)]; decide
theorem castL_len (l : List Nat) : (castL l).length = l.length := by simp [castL]
theorem rowsC_at {an : List Nat} {i : Nat} (h : i < an.length) (h' : i < (rowsZ (castL an)).length) : (rowsZ (castL an))[i]'h' = [.int .i64 ((an.getD i 0 : Nat) : Int)] := by
  simp [rowsZ, castL, List.getD_eq_getElem?_getD, List.getElem?_eq_getElem h]
def matB (h w : Int) (ws : List Int) : Bool := inB h 1 8 && inB w 1 8 && ((ws.length : Int) == h * w) && ws.all elB
theorem hw_wrap {h w : Int} (h1 : inB h 1 8 = true) (h2 : inB w 1 8 = true) : IntKind.wrap .i64 (h * w) = h * w := by
  simp [inB] at h1 h2
  have b1 : h * w ≤ 8 * 8 := Int.mul_le_mul h1.2 h2.2 (by omega) (by omega)
  have b2 : 0 ≤ h * w := Int.mul_nonneg (by omega) (by omega)
  exact wrap64 ⟨by omega, by omega⟩
theorem l03OK (k : Nat) (h w : Int) (ws : List Int) (hn : ws.length ≤ 1048576) : call code (k + 3) 36 [.agg [.int .i64 h, .int .i64 w, .rd true (rowsZ ws)]] [] = some ⟨.bool (matB h w ws), [], []⟩ := by
  refine call_run rfl fn36 rfl ?_
  have hrl := rowsZ_len ws
  cases h1 : inB h 1 8
  · simp [F36, rcall59, l00In, h1, matB]
  cases h2 : inB w 1 8
  · simp [F36, rcall59, l00In, h1, h2, matB]
  have e1 := hw_wrap h1 h2
  cases h3 : ((ws.length : Int) == h * w)
  · have h3' : ((ws.length : Int) != h * w) = true := by simp [bne, h3]
    simp [F36, rcall59, l00In, h1, h2, e1, hrl, h3', matB, h3]
  have h3' : ((ws.length : Int) != h * w) = false := by simp [bne, h3]
  simp [F36, rcall59, l00In, h1, h2, e1, hrl, h3']
  refine RunC_loop (fun i : Nat => ⟨[.undef, .ptr 0 0 0 [] 0 0, .undef, .int .i64 i] ++ List.replicate 35 .undef, [(0, some ⟨0, 3, true, false, [[.int .i64 h, .int .i64 w, .rd true (rowsZ ws)]]⟩)], []⟩)
    (fun i => i ≤ ws.length ∧ ∀ j (hj : j < i) (hl : j < ws.length), elB ws[j] = true) (fun i => ws.length - i) 0 ⟨Nat.zero_le _, fun j hj => by omega⟩ (by simp; omega) (by simp) fun i hi _ => ?_
  by_cases hlt : i < ws.length
  · have hg : ∀ h, (rowsZ ws)[i]'h = [AV.int .i64 ws[i]] := fun h => rowsZ_at hlt h
    have hs : IntKind.wrap .i64 ((i : Int) + 1) = ((i + 1 : Nat) : Int) := by rw [wrap64 ⟨by omega, by omega⟩]; omega
    cases hb : elB ws[i]
    · have hall : ws.all elB = false := by rw [List.all_eq_false]; exact ⟨ws[i], List.getElem_mem hlt, by simp [hb]⟩
      simp [hlt, hrl, hg, rcall60, l02Byte, hb, matB, hall]
    · simp [hlt, hrl, hg, rcall60, l02Byte, hb, hs]
      refine ⟨i + 1, ⟨by omega, fun j hj hl => ?_⟩, by omega, by simp⟩
      rcases Nat.lt_succ_iff_lt_or_eq.1 hj with h | rfl
      · exact hi.2 j h hl
      · exact hb
  · have : i = ws.length := by omega
    subst this
    have hall : ws.all elB = true := by
      rw [List.all_eq_true]; intro x hx
      obtain ⟨j, hj, rfl⟩ := List.getElem_of_mem hx
      exact hi.2 j hj hj
    simp [hrl, matB, h1, h2, h3, hall]
theorem matrixOk (k : Nat) (h w : Int) (ws : List Int) (hn : ws.length ≤ 1048576) : call code (k + 6) 39 [.agg [.int .i64 h, .int .i64 w, .rd true (rowsZ ws)]] [] = some ⟨.bool (matB h w ws), [], []⟩ := by
  refine call_run rfl fn39 rfl ?_
  have hrl := rowsZ_len ws
  have hc := fun k => containsFunc k ws hn
  cases h1 : inB h 1 8
  · simp [F39, rcall30, between, h1, matB]
  cases h2 : inB w 1 8
  · simp [F39, rcall30, between, h1, h2, matB]
  have e1 := hw_wrap h1 h2
  cases h3 : ((ws.length : Int) == h * w)
  · simp [F39, rcall30, between, h1, h2, e1, hrl, h3, matB]
  simp [F39, rcall30, between, h1, h2, e1, hrl, h3, matB, rcall42, hc]
def prt (an : List Nat) (A B : Nat) : List Nat := (an.take B).drop A
theorem prt_get {an : List Nat} {A B j : Nat} (h : A + j < B) : (prt an A B).getD j 0 = an.getD (A + j) 0 := by
  simp [prt, List.getD_eq_getElem?_getD, List.getElem?_drop, List.getElem?_take_of_lt h]
theorem prt_len {an : List Nat} {A B : Nat} (h : B ≤ an.length) : (prt an A B).length = B - A := by simp [prt]; omega
theorem prt_rows (an : List Nat) (A B : Nat) : ((rowsZ (castL an)).take B).drop A = rowsZ (castL (prt an A B)) := by simp [rowsZ, castL, prt, List.map_take, List.map_drop]
/-- A row of a matrix that is only read. -/
theorem rowRd (k : Nat) (l : Heap) (h : Int) (w i : Nat) (an : List Nat) (hw : w ≤ 1000) (hi : (i + 1) * w ≤ an.length) (hn : an.length ≤ 4000000) (hi2 : i ≤ 1000) :
    call code (k + 1) 40 [.agg [.int .i64 h, .int .i64 w, .rd true (rowsZ (castL an))], .int .i64 i] [l] = some ⟨.rd true (rowsZ (castL (prt an (i * w) ((i + 1) * w)))), [], [l]⟩ := by
  refine call_run rfl fn40 rfl ?_
  have hm1 : i * w ≤ 4000000 := by rw [Nat.add_mul] at hi; omega
  have e1 : IntKind.wrap .i64 ((i : Int) * (w : Int)) = ((i * w : Nat) : Int) := by rw [show (i : Int) * (w : Int) = ((i * w : Nat) : Int) by simp, wrap64 ⟨by omega, by omega⟩]
  have e2 : IntKind.wrap .i64 ((i : Int) + 1) = ((i + 1 : Nat) : Int) := by rw [wrap64 ⟨by omega, by omega⟩]; omega
  have e3 : IntKind.wrap .i64 (((i + 1 : Nat) : Int) * (w : Int)) = (((i + 1) * w : Nat) : Int) := by rw [show ((i + 1 : Nat) : Int) * (w : Int) = (((i + 1) * w : Nat) : Int) by simp, wrap64 ⟨by omega, by omega⟩]
  have hle : i * w ≤ (i + 1) * w := by rw [Nat.add_mul]; omega
  have hrl : (rowsZ (castL an)).length = an.length := by rw [rowsZ_len, castL_len]
  have hp := prt_rows an (i * w) ((i + 1) * w)
  have hall : (rowsZ (castL an)).all (fun r => r.length == 1) = true := by simp [rowsZ]
  generalize hA : i * w = A at *
  generalize hB : (i + 1) * w = B at *
  generalize hI : i + 1 = I1 at *
  simp [F40, e1, e2, e3, hrl, hi, hle, hp]
  try (intro x hx; simp [rowsZ] at hx; obtain ⟨a, _, rfl⟩ := hx; rfl)
end Go.Ae.M2
namespace Go.Ae.M2
set_option linter.unusedSimpArgs false
set_option linter.unusedVariables false
set_option maxRecDepth 10000

theorem fitInt64S : ∀ {xs : List (List AV)}, (∀ r ∈ xs, FitsAll [.int .i64] r) → ∃ ws : List Int, xs = rws encI ws ∧ ∀ x ∈ ws, (-9223372036854775808 ≤ x ∧ x ≤ 9223372036854775807)
  | [], _ => ⟨[], rfl, fun _ h => by cases h⟩
  | r :: xs, h => by
    have h0 := h r List.mem_cons_self
    obtain ⟨_, _, rfl, h1, h0⟩ := h0.cons_inv
    obtain rfl := h0.nil_inv
    obtain ⟨v0, rfl, w0⟩ := h1.i64_inv
    obtain ⟨ws, rfl, hw⟩ := fitInt64S fun x hx => h x (List.mem_cons_of_mem _ hx)
    exact ⟨v0 :: ws, rfl, fun s hs => by rcases List.mem_cons.1 hs with rfl | hs; exact w0; exact hw s hs⟩
theorem eqInt64S (k : Nat) (ws : List Int) (hn : ws.length ≤ 1048576000) : call code (k + 1) 32 [.rd true (rws encI ws), .rd true (rws encI ws)] [] = some ⟨.bool true, [], []⟩ := by
  refine call_run rfl fn32 rfl ?_
  simp [F32]
  refine RunC_loop (fun i : Nat => ⟨tm 26 [(0, .rd true (rws encI ws)), (1, .rd true (rws encI ws)), (5, .int .i64 i)], [], []⟩)
    (fun i => i ≤ ws.length) (fun i => ws.length - i) 0 (Nat.zero_le _) (by simp; omega) (by simp [tm]) fun i hi _ => ?_
  by_cases hlt : i < ws.length
  · have hs := idx_succ' hlt (by omega)
    simp [tm, hlt, hs, encI]
    exact ⟨i + 1, by omega, by omega, by simp⟩
  · have : i = ws.length := by omega
    subst this
    simp [tm]
set_option maxHeartbeats 4000000 in
theorem markInt64S (k lv : Nat) (E : List Heap) (S : Nat) (ws : List Int) (c : Int) (hn : ws.length ≤ 1100000) (hc : 1 ≤ c ∧ c ≤ 800000000) (hlv : lv < E.length) (hl : (hat E lv).get S = some (some ⟨0, 1, false, true, rws encI ws⟩)) :
    call code (k + 1) 33 [.sl (lv + 1) S 0 [] 0 ws.length, .int .i64 c] E = some ⟨.int .i64 (c + ws.length), [], E.modify lv fun h => hp h S (mblk encI 1 mkI c ws) ws.length⟩ := by
  refine call_run rfl fn33 rfl ?_
  simp [F33]
  refine RunC_loop (fun i : Nat => ⟨tm 19 [(0, .sl (lv + 1) S 0 [] 0 ws.length), (1, .int .i64 (c + i)), (5, .int .i64 i)], [], E.modify lv fun h => hp h S (mblk encI 1 mkI c ws) i⟩)
    (fun i => i ≤ ws.length) (fun i => ws.length - i) 0 (Nat.zero_le _) (by simp; omega) (by simp [tm, hp_zero, modify_id']) fun i hi _ => ?_
  have hg : (hp (hat E lv) S (mblk encI 1 mkI c ws) i).get S = some (some ⟨0, 1, false, true, rws encI (mix (mkI c) ws i)⟩) := hp_get (by rw [mblk_zero]; exact hl) i
  have hml := mix_len (f := mkI c) hi
  by_cases hlt : i < ws.length
  · have hs := idx_succ' hlt (by omega)
    have hset : (rws encI (mix (mkI c) ws i)).set i (encI (mkI c i)) = rws encI (mix (mkI c) ws (i + 1)) := by rw [rws_set, mix_set hlt]
    have hhs : ∀ h : Heap, (hp h S (mblk encI 1 mkI c ws) i).set S (some ⟨0, 1, false, true, rws encI (mix (mkI c) ws (i + 1))⟩) = hp h S (mblk encI 1 mkI c ws) (i + 1) := fun h => hp_set i
    have p0 : IntKind.wrap .i64 (c + (i : Int) + 1) = c + ((i + 1 : Nat) : Int) := by rw [wrap64 ⟨by omega, by omega⟩] <;> omega
    simp only [encI, mkI] at hset
    simp [tm, hlt, hg, blk_succ, heap_succ, put_succ, hat_modify, modify_modify', hlv, hml, hs, get_set, set_set_same, encI, hset, hhs, p0]
    exact ⟨i + 1, by omega, by omega, by simp⟩
  · have : i = ws.length := by omega
    subst this
    simp [tm, hg, blk_succ, hml, hat_modify, hlv]
set_option maxHeartbeats 4000000 in
theorem heldInt64S (k : Nat) (n : Nat) (c : Int) (hn : n ≤ 1100000) (hc : 1 ≤ c ∧ c ≤ 800000000) : call code (k + 1) 34 [.rd true (rws encI (marks mkI c n)), .int .i64 c] [] = some ⟨.int .i64 (c + n), [], []⟩ := by
  refine call_run rfl fn34 rfl ?_
  simp [F34]
  refine RunC_loop (fun i : Nat => ⟨tm 21 [(0, .rd true (rws encI (marks mkI c n))), (1, .int .i64 (c + i)), (5, .int .i64 i)], [], []⟩)
    (fun i => i ≤ n) (fun i => n - i) 0 (Nat.zero_le _) (by simp; omega) (by simp [tm]) fun i hi _ => ?_
  by_cases hlt : i < n
  · have hs := idx_succ' hlt (by omega)
    have p0 : IntKind.wrap .i64 (c + (i : Int) + 1) = c + ((i + 1 : Nat) : Int) := by rw [wrap64 ⟨by omega, by omega⟩] <;> omega
    simp [tm, hlt, hs, marks_at, encI, mkI, p0]
    exact ⟨i + 1, by omega, by omega, by simp⟩
  · have : i = n := by omega
    subst this
    simp [tm]
theorem szInt64S (k : Nat) (l : Int) (ws : List Int) (hl : 0 ≤ l ∧ l ≤ 1048576) (hn : ws.length ≤ 140737488351232) : call code (k + 1) 35 [.rd true (rws encI ws), .int .i64 l] [] = some ⟨.int .i64 (szV l ws.length), [], []⟩ := by
  refine call_run rfl fn35 rfl ?_
  have e1 : IntKind.wrap .i64 (l - (ws.length : Int)) = l - ws.length := wrap64 ⟨by omega, by omega⟩
  cases hd : decide (l - (ws.length : Int) < 0)
  · rw [szV_le (by have := of_decide_eq_false hd; omega)]
    simp [F35, e1, hd]
  · rw [szV_gt (by have := of_decide_eq_true hd; omega)]
    simp [F35, e1, hd]
theorem toInt64S (k : Nat) (ws : List Int) (hn : ws.length ≤ 1048576) : call code (k + 1) 38 [.rd true (rws encI ws)] [] = some ⟨.sl 0 0 0 [] 0 ws.length, [⟨0, 1, false, true, rws encI ws⟩], []⟩ := by
  refine call_run rfl fn38 rfl ?_
  simp [F38, zeroRow]
  refine ⟨⟨by omega, by omega⟩, ?_⟩
  refine RunC_loop (fun i : Nat => ⟨tm 22 [(0, .rd true (rws encI ws)), (3, .sl 0 66048 0 [] 0 ws.length), (4, .int .i64 i)], [(0, some ⟨0, 1, false, true, []⟩), (66048, some ⟨0, 1, false, true, rws encI (cpy (0 : Int) ws i)⟩)], []⟩)
    (fun i => i ≤ ws.length) (fun i => ws.length - i) 0 (Nat.zero_le _) (by simp; omega) (by simp [tm, rws_cpy, encI]) fun i hi _ => ?_
  have hcl := cpy_len (z := (0 : Int)) hi
  by_cases hlt : i < ws.length
  · have hst : (rws encI (cpy (0 : Int) ws i)).set i (encI ws[i]) = rws encI (cpy (0 : Int) ws (i + 1)) := by rw [rws_set, cpy_set hlt]
    have hs := idx_succ' hlt (by omega)
    simp only [encI] at hst
    simp [tm, hlt, hcl, hst, hs, encI]
    exact ⟨i + 1, by omega, by omega, by simp, rfl⟩
  · have : i = ws.length := by omega
    subst this
    simp [tm, cpy_all]
theorem eqMatrix (k : Nat) (v0 : Int) (v1 : Int) (v2 : List Int) (hv2 : v2.length ≤ 1048576000) : call code (k + 2) 11 [.agg [.int .i64 v0, .int .i64 v1, .rd true (rws encI v2)], .agg [.int .i64 v0, .int .i64 v1, .rd true (rws encI v2)]] [] = some ⟨.bool true, [], []⟩ := by
  refine call_run rfl fn11 rfl ?_
  have q0 := fun k => eqInt64S k v2 hv2
  simp [F11, rcall32, q0]
set_option maxHeartbeats 4000000 in
theorem markMatrix (k lv : Nat) (E : List Heap) (v0 : Int) (v1 : Int) (v2 : List Int) (S2 : Nat) (c : Int) (hc : 1 ≤ c ∧ c ≤ 400000000) (hlv : lv < E.length) (nv2 : v2.length ≤ 1100000) (gv2 : (hat E lv).get S2 = some (some ⟨0, 1, false, true, rws encI v2⟩))  :
    call code (k + 2) 12 [.agg [.int .i64 v0, .int .i64 v1, .sl (lv + 1) S2 0 [] 0 v2.length], .int .i64 c] E = some ⟨.int .i64 (c + v2.length), [], E.modify lv fun h => hp (h) S2 (mblk encI 1 mkI (c) v2) v2.length⟩ := by
  refine call_run rfl fn12 rfl ?_
  have q0 := fun k l0 => markInt64S k (lv + 1) (l0 :: E) S2 v2 (c) nv2 (by omega) (by simp; omega) (by simpa using gv2)
  simp [F12, rcall33, q0, modify_modify', hlv]
set_option maxHeartbeats 4000000 in
theorem heldMatrix (k : Nat) (v0 : Int) (v1 : Int) (n2 : Nat) (c : Int) (hc : 1 ≤ c ∧ c ≤ 400000000) (hv2 : n2 ≤ 1100000) : call code (k + 2) 13 [.agg [.int .i64 v0, .int .i64 v1, .rd true (rws encI (marks mkI (c) n2))], .int .i64 c] [] = some ⟨.int .i64 (c + n2), [], []⟩ := by
  refine call_run rfl fn13 rfl ?_
  have q0 := fun k => heldInt64S k n2 (c) hv2 (by omega)
  have d0 : decide (c + (n2 : Int) < 0) = false := by simp; omega
  simp [F13, rcall34, q0, d0]
theorem szMatrix (k : Nat) (l : Int) (v0 : Int) (v1 : Int) (v2 : List Int) (hl : 0 ≤ l ∧ l ≤ 1048576) (b2 : v2.length ≤ 140737488351232) : call code (k + 2) 14 [.agg [.int .i64 v0, .int .i64 v1, .rd true (rws encI v2)], .int .i64 l] [] = some ⟨.int .i64 (szV l (v2.length)), [], []⟩ := by
  refine call_run rfl fn14 rfl ?_
  have e0 := fun k => szInt64S k (l) v2 ⟨by omega, by omega⟩ b2
  cases d0 : decide (szV (l) v2.length < 0)
  rotate_left
  · obtain ⟨a0, z0⟩ := szV_neg d0 (by omega)
    rw [z0] at e0
    have hr : szV l (v2.length) = -1 := szV_gt (by omega)
    rw [hr]; simp [F14, rcall35, e0]
  obtain ⟨a0, z0⟩ := szV_pos d0 (by omega)
  rw [z0] at e0 d0
  try simp only [Int.natCast_add] at e0 d0
  have hr : szV l (v2.length) = l - ((v2.length : Nat) : Int) := by rw [szV_le (by omega)] <;> omega
  rw [hr]; simp [F14, rcall35, e0, d0]
theorem toMatrix (k : Nat) (v0 : Int) (v1 : Int) (v2 : List Int) (hv2 : v2.length ≤ 1048576) : call code (k + 2) 16 [.agg [.int .i64 v0, .int .i64 v1, .rd true (rws encI v2)]] [] = some ⟨.agg [.int .i64 v0, .int .i64 v1, .sl 0 0 0 [] 0 v2.length], [⟨0, 1, false, true, rws encI v2⟩], []⟩ := by
  refine call_run rfl fn16 rfl ?_
  have q0 := fun k => toInt64S k v2 hv2
  simp [F16, rcall38, q0]
end Go.Ae.M2
namespace Go.Ae.M2
set_option linter.unusedSimpArgs false
set_option linter.unusedVariables false
/-- The cells of a square matrix. -/
def fl (w : Nat) (M : Nat → Nat → Nat) : List Nat := (List.range (w * w)).map fun x => M (x / w) (x % w)
theorem fl_len (w : Nat) (M : Nat → Nat → Nat) : (fl w M).length = w * w := by simp [fl]
theorem dm {w i j : Nat} (hj : j < w) : (i * w + j) / w = i ∧ (i * w + j) % w = j := by
  have hw : 0 < w := by omega
  constructor
  · rw [Nat.mul_comm, Nat.mul_add_div hw, Nat.div_eq_of_lt hj, Nat.add_zero]
  · rw [Nat.mul_comm, Nat.mul_add_mod, Nat.mod_eq_of_lt hj]
theorem ix_lt {w i j : Nat} (hi : i < w) (hj : j < w) : i * w + j < w * w := by
  have : (i + 1) * w ≤ w * w := Nat.mul_le_mul_right _ hi
  rw [Nat.add_mul] at this; omega
theorem fl_get {w : Nat} {M : Nat → Nat → Nat} {i j : Nat} (hi : i < w) (hj : j < w) : (fl w M).getD (i * w + j) 0 = M i j := by
  obtain ⟨h1, h2⟩ := dm (i := i) hj
  rw [List.getD_eq_getElem?_getD, List.getElem?_eq_getElem (by rw [fl_len]; exact ix_lt hi hj)]
  simp [fl, h1, h2]
theorem fl_congr {w : Nat} {M N : Nat → Nat → Nat} (h : ∀ i j, i < w → j < w → M i j = N i j) : fl w M = fl w N := by
  unfold fl
  apply List.map_congr_left
  intro x hx
  have hx' := List.mem_range.1 hx
  have hw : 0 < w := by
    rcases Nat.eq_zero_or_pos w with rfl | h
    · simp at hx'
    · exact h
  exact h _ _ (Nat.div_lt_of_lt_mul hx') (Nat.mod_lt _ hw)
theorem fl_set {w : Nat} {M : Nat → Nat → Nat} {i j v : Nat} (hi : i < w) (hj : j < w) : (fl w M).set (i * w + j) v = fl w (fun a b => if a = i ∧ b = j then v else M a b) := by
  obtain ⟨h1, h2⟩ := dm (i := i) hj
  have hlt := ix_lt hi hj
  apply List.ext_getElem
  · simp [fl_len]
  · intro x hx1 hx2
    rw [List.getElem_set]
    have hx : x < w * w := by simpa [fl_len] using hx2
    simp only [fl, List.getElem_map, List.getElem_range]
    by_cases hxx : i * w + j = x
    · rw [if_pos hxx, ← hxx, h1, h2, if_pos ⟨rfl, rfl⟩]
    · rw [if_neg hxx, if_neg]
      rintro ⟨e1, e2⟩
      apply hxx
      rw [← e1, ← e2, Nat.mul_comm]; exact Nat.div_add_mod x w
theorem fl_lt {w : Nat} {M : Nat → Nat → Nat} (h : ∀ i j, i < w → j < w → M i j < 256) : ∀ x ∈ fl w M, x < 256 := by
  intro x hx
  simp only [fl, List.mem_map, List.mem_range] at hx
  obtain ⟨y, hy, rfl⟩ := hx
  have hw : 0 < w := by
    rcases Nat.eq_zero_or_pos w with rfl | h
    · simp at hy
    · exact h
  exact h _ _ (Nat.div_lt_of_lt_mul hy) (Nat.mod_lt _ hw)
/-- The cells of a list as a matrix. -/
def unfl (w : Nat) (an : List Nat) : Nat → Nat → Nat := fun i j => an.getD (i * w + j) 0
theorem fl_unfl {w : Nat} {an : List Nat} (h : an.length = w * w) : fl w (unfl w an) = an := by
  apply List.ext_getElem
  · rw [fl_len, h]
  · intro x h1 h2
    simp only [fl, unfl, List.getElem_map, List.getElem_range]
    rw [Nat.mul_comm, Nat.div_add_mod, List.getD_eq_getElem?_getD, List.getElem?_eq_getElem h2]; rfl
def addRow (M : Nat → Nat → Nat) (t s c : Nat) : Nat → Nat → Nat := fun i j => if i = t then M t j ^^^ gm c (M s j) else M i j
def rowsM (w : Nat) (M : Nat → Nat → Nat) : List (List AV) := rowsZ (castL (fl w M))
@[simp] theorem rowsM_len (w : Nat) (M : Nat → Nat → Nat) : (rowsM w M).length = w * w := by rw [rowsM, rowsZ_len, castL_len, fl_len]
theorem rowsM_get {w : Nat} {M : Nat → Nat → Nat} {i j : Nat} (hi : i < w) (hj : j < w) (h : i * w + j < (rowsM w M).length) : (rowsM w M)[i * w + j]'h = [.int .i64 ((M i j : Nat) : Int)] := by
  have := rowsC_at (an := fl w M) (i := i * w + j) (by rw [fl_len]; exact ix_lt hi hj) h
  rw [fl_get hi hj] at this
  exact this
theorem rowsM_set {w : Nat} {M : Nat → Nat → Nat} {i j v : Nat} (hi : i < w) (hj : j < w) : (rowsM w M).set (i * w + j) [.int .i64 ((v : Nat) : Int)] = rowsM w (fun a b => if a = i ∧ b = j then v else M a b) := by
  unfold rowsM
  rw [rowsZ_set, ← fl_set hi hj]
  congr 1
  simp [castL, List.map_set]
theorem rowsM_congr {w : Nat} {M N : Nat → Nat → Nat} (h : ∀ i j, i < w → j < w → M i j = N i j) : rowsM w M = rowsM w N := by
  unfold rowsM; rw [fl_congr h]
def mb (w : Nat) (M : Nat → Nat → Nat) : Blk := ⟨0, 1, false, true, rowsM w M⟩
/-- The first q of a row told anew. -/
def part (M : Nat → Nat → Nat) (t c : Nat) (xs : Nat → Nat) (q : Nat) : Nat → Nat → Nat := fun i j => if i = t ∧ j < q then M t j ^^^ gm c (xs j) else M i j
theorem part_zero (M : Nat → Nat → Nat) (t c : Nat) (xs : Nat → Nat) : part M t c xs 0 = M := by funext i j; simp [part]
theorem part_next {w : Nat} {M : Nat → Nat → Nat} {t c q : Nat} {xs : Nat → Nat} (ht : t < w) (hq : q < w) :
    (rowsM w (part M t c xs q)).set (t * w + q) [.int .i64 ((M t q ^^^ gm c (xs q) : Nat) : Int)] = rowsM w (part M t c xs (q + 1)) := by
  rw [rowsM_set ht hq]
  apply rowsM_congr
  intro i j hi hj
  unfold part
  by_cases h1 : i = t
  · subst h1
    by_cases h2 : j = q
    · subst h2; simp
    · by_cases h3 : j < q
      · simp [h2, h3, show j < q + 1 by omega]
      · simp [h2, h3, show ¬ j < q + 1 by omega]
  · simp [h1]
end Go.Ae.M2
namespace Go.Ae.M2
set_option linter.unusedSimpArgs false
set_option linter.unusedVariables false
def pblk (w : Nat) (M : Nat → Nat → Nat) (t c : Nat) (xs : Nat → Nat) (q : Nat) : Blk := mb w (part M t c xs q)
theorem gx (a b : Nat) (ha : a < 256) (hb : b < 256) : gXor .i64 (a : Int) (b : Int) = ((a ^^^ b : Nat) : Int) := gXor64 (by omega) (by omega)
theorem hp_end {l : Heap} {S w : Nat} {M : Nat → Nat → Nat} {t c : Nat} {xs : Nat → Nat} (h : l.set S (some (mb w M)) = l) (ht : t < w) :
    hp l S (pblk w M t c xs) w = l.set S (some (mb w fun i j => if i = t then M t j ^^^ gm c (xs j) else M i j)) := by
  rw [hp_all (by rw [pblk, part_zero]; exact h)]
  congr 2
  unfold pblk mb
  congr 1
  apply rowsM_congr
  intro i j hi hj
  simp [part, hj]
set_option maxHeartbeats 4000000 in
theorem addTo (k : Nat) (l : Heap) (S w t s c : Nat) (M : Nat → Nat → Nat) (hw : 1 ≤ w ∧ w ≤ 8) (ht : t < w) (hs : s < w) (hne : s ≠ t) (hc : c < 256) (hM : ∀ i j, i < w → j < w → M i j < 256) (hl : l.get S = some (some (mb w M))) :
    call code (k + 3) 66 [.sl 1 S 0 [] (t * w) w, .sl 1 S 0 [] (s * w) w, .int .i64 c] [l] = some ⟨.tup [], [], [hp l S (pblk w M t c (M s)) w]⟩ := by
  refine call_run rfl fn66 rfl ?_
  simp [F66, hl, mb]
  refine RunC_loop (fun q : Nat => ⟨tm 25 [(0, .sl 1 S 0 [] (t * w) w), (2, .int .i64 c), (8, .sl 1 S 0 [] (s * w) w), (9, .int .i64 w), (10, .int .i64 q)], [], [hp l S (pblk w M t c (M s)) q]⟩)
    (fun q => q ≤ w) (fun q => w - q) 0 (Nat.zero_le _) (by simp; omega) (by simp [tm, hp_zero]) fun q hq _ => ?_
  have hg : (hp l S (pblk w M t c (M s)) q).get S = some (some (pblk w M t c (M s) q)) := hp_get (by rw [pblk, part_zero]; exact hl) q
  simp only [pblk, mb] at hg
  by_cases hlt : q < w
  · have hi := idx_succ' hlt (by omega)
    have b1 := ix_lt hs hlt
    have b2 := ix_lt ht hlt
    have g1 : ∀ h, (rowsM w (part M t c (M s) q))[s * w + q]'h = [.int .i64 ((M s q : Nat) : Int)] := fun h => by
      rw [rowsM_get hs hlt h]; simp [part, hne]
    have g2 : ∀ h, (rowsM w (part M t c (M s) q))[t * w + q]'h = [.int .i64 ((M t q : Nat) : Int)] := fun h => by
      rw [rowsM_get ht hlt h]; simp [part]
    have m1 := hM s q hs hlt
    have m2 := hM t q ht hlt
    have ht1 := fun k => times k c (M s q) hc m1
    have hx := gx (M t q) (gm c (M s q)) m2 (gm_lt hc)
    have hset := part_next (M := M) (c := c) (xs := M s) ht hlt
    have hhs : (hp l S (pblk w M t c (M s)) q).set S (some ⟨0, 1, false, true, rowsM w (part M t c (M s) (q + 1))⟩) = hp l S (pblk w M t c (M s)) (q + 1) := hp_set q
    generalize M s q = u at *
    generalize M t q = v at *
    generalize gm c u = g at *
    generalize s * w = sq at *
    generalize t * w = tq at *
    generalize v ^^^ g = vg at *
    simp [tm, hlt, hg, b1, b2, g1, g2, hi, rcall41, ht1, hx, hset, hhs]
    exact ⟨q + 1, by omega, by omega, by simp⟩
  · have : q = w := by omega
    subst this
    simp [tm]
set_option maxHeartbeats 4000000 in
theorem addToC (k : Nat) (l : Heap) (S T w t c : Nat) (M : Nat → Nat → Nat) (xs : Nat → Nat) (hw : 1 ≤ w ∧ w ≤ 8) (ht : t < w) (hne : T ≠ S) (hc : c < 256) (hM : ∀ i j, i < w → j < w → M i j < 256) (hX : ∀ j, j < w → xs j < 256) (hl : l.get S = some (some (mb w M)))
    (hT : l.get T = some (some ⟨0, 1, false, true, rowsZ (castL ((List.range w).map xs))⟩)) :
    call code (k + 3) 66 [.sl 1 S 0 [] (t * w) w, .sl 1 T 0 [] 0 w, .int .i64 c] [l] = some ⟨.tup [], [], [hp l S (pblk w M t c xs) w]⟩ := by
  refine call_run rfl fn66 rfl ?_
  simp [F66, hl, hT, mb]
  refine RunC_loop (fun q : Nat => ⟨tm 25 [(0, .sl 1 S 0 [] (t * w) w), (2, .int .i64 c), (8, .sl 1 T 0 [] 0 w), (9, .int .i64 w), (10, .int .i64 q)], [], [hp l S (pblk w M t c xs) q]⟩)
    (fun q => q ≤ w) (fun q => w - q) 0 (Nat.zero_le _) (by simp; omega) (by simp [tm, hp_zero]) fun q hq _ => ?_
  have hg : (hp l S (pblk w M t c xs) q).get S = some (some (pblk w M t c xs q)) := hp_get (by rw [pblk, part_zero]; exact hl) q
  simp only [pblk, mb] at hg
  have hgT : (hp l S (pblk w M t c xs) q).get T = some (some ⟨0, 1, false, true, rowsZ (castL ((List.range w).map xs))⟩) := by rw [hp_ne hne]; exact hT
  have hrl : (rowsZ (castL ((List.range w).map xs))).length = w := by rw [rowsZ_len, castL_len]; simp
  by_cases hlt : q < w
  · have hi := idx_succ' hlt (by omega)
    have b2 := ix_lt ht hlt
    have g1 : ∀ h, (rowsZ (castL ((List.range w).map xs)))[q]'h = [.int .i64 ((xs q : Nat) : Int)] := fun h => by
      have := rowsC_at (an := (List.range w).map xs) (i := q) (by simpa using hlt) h
      rw [this, List.getD_eq_getElem?_getD, List.getElem?_eq_getElem (by simpa using hlt)]; simp
    have g2 : ∀ h, (rowsM w (part M t c xs q))[t * w + q]'h = [.int .i64 ((M t q : Nat) : Int)] := fun h => by
      rw [rowsM_get ht hlt h]; simp [part]
    have m1 := hX q hlt
    have m2 := hM t q ht hlt
    have ht1 := fun k => times k c (xs q) hc m1
    have hx := gx (M t q) (gm c (xs q)) m2 (gm_lt hc)
    have hset := part_next (M := M) (c := c) (xs := xs) ht hlt
    have hhs : (hp l S (pblk w M t c xs) q).set S (some ⟨0, 1, false, true, rowsM w (part M t c xs (q + 1))⟩) = hp l S (pblk w M t c xs) (q + 1) := hp_set q
    generalize xs q = u at *
    generalize M t q = v at *
    generalize gm c u = g at *
    generalize t * w = tq at *
    generalize v ^^^ g = vg at *
    simp [tm, hlt, hg, hgT, hrl, b2, g1, g2, hi, rcall41, ht1, hx, hset, hhs]
    exact ⟨q + 1, by omega, by omega, by simp⟩
  · have : q = w := by omega
    subst this
    simp [tm]
end Go.Ae.M2
